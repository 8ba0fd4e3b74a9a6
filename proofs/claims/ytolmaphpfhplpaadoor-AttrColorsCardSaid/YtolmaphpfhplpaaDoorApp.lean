/-
  The contract of attr.Apply: the list without negative numbers, and the loop over it.
  Condition: the package-level table 'codes' holds its eight numbers (CodesIn).
-/
import Derived.Test.YtolmaphpfhplpaaDoorOne
namespace Go.Proofs.YtolmaphpfhplpaaDoor
open Go Go.AE Go.DE Go.RowKit

abbrev lB (n : Nat) (w : Nat → Int) : DBlk := ⟨1, .tab n (ints w)⟩
def mx (z : Nat → Int) : Nat → Int := fun j => if 0 > z j then 0 else z j
theorem subL_push {r : Nat → Option Nat} {n : Nat} {w : Nat → Int} {v : Int} (h : w n = v) : SubC r (lB (n + 1) w) ⟨1, .app (.pre (.tab n (ints w)) n) (.lst [[iv v]])⟩ := by
  refine subC_to (Nat.le_refl _) trivial fun i f hi hf => ⟨.v _, ?_⟩
  have hi : i < n + 1 := hi
  obtain rfl : f = 0 := by omega
  show (if i < n then iv (w i) else ([[iv v]].getD (i - n) []).getD 0 .any) = iv (w i)
  split
  · rfl
  · obtain rfl : i = n := by omega
    rw [Nat.sub_self, h]
    rfl
theorem subL_same {r : Nat → Option Nat} {n : Nat} {w : Nat → Int} : SubC r (lB n w) (lB n w) := subC_same trivial fun _ _ _ _ => .v _
theorem subL_nil {r : Nat → Option Nat} {w : Nat → Int} {c : DC} : SubC r (lB 0 w) ⟨1, c⟩ := ⟨rfl, Nat.zero_le _, trivial, fun i f hi => by have : i < 0 := hi; omega⟩
theorem subA {r : Nat → Option Nat} {x y z : Int} : SubC r (row3 (iv x) (iv y) (iv z)) (row3 (iv x) (iv y) (iv z)) := subC3 (Nat.le_refl _) (.v _) (.v _) (.v _)

structure LX where
  a : At
  z : Nat → Int
  t : Bool
  n : Nat
  i : Nat
def apI1 : LInv LX where
  pre x := x.i ≤ x.n ∧ x.n ≤ 1000000
  m := 3
  n := 108
  ps := [2, 4, 5, 22, 23, 24]
  sd x := [.po 0 0 0, .po 1 0 0, .os 3 0 x.i, .sl x.t (ints x.z) 1 x.n, iv x.n, iv x.i]
  sh x := [some x.a.b, some row0, none, some (lB x.i (mx x.z))]
  meas x := x.n - x.i
  e _ := .exit 0
  qs := [2, 4, 5]
  od x := [.po 0 0 0, .po 1 0 0, .os 3 0 x.n]
  oh x := [some x.a.b, some row0, none, some (lB x.n (mx x.z))]
  guess ds σ := match ds, σ with
    | [_, _, _, .sl t g 1 n, _, _], some ⟨_, .lst [[.v (.int _ x), .v (.int _ y), .v (.int _ f)]]⟩ :: _ => some ⟨⟨x, y, f⟩, fun i => num (g i 0), t, n, 0⟩
    | _, _ => none
  cps x k := k (.exit 0) [.po 0 0 0, .po 1 0 0, .os 3 0 x.n] [some x.a.b, some row0, none, some (lB x.n (mx x.z))]
theorem app1_tree (t : Bool) (a : At) (z w : Nat → Int) (n i : Nat) (K : Ex → Nat → List DV → List DV → DHeap → Option Unit) : execD Tryd.prog (env [] noLp 0) (loopAt Tryd.f13 58) 500 (temps 108 [2, 4, 5, 22, 23, 24] [.po 0 0 0, .po 1 0 0, .os 3 0 i, .sl t (ints z) 1 n, iv n, iv i]) [some a.b, some row0, none, some (lB i w)] (fun e τ σ => K e τ.length (pick [2, 4, 5, 22, 23, 24] τ) (pick [2, 4, 5] τ) σ) =
    bif decide ((↑i : Int) < (↑n : Int)) then
      bif decide ((↑i : Int) < (↑n : Int)) then
        bif decide (Int.toNat (↑i : Int) + 0 < n) then
          bif decide (i ≤ DC.n (DBlk.c (lB i w))) then
            bif decide ((i + 1) * 8 ≤ 140737488355328) then
              K Ex.normal 108
                [DV.po 0 0 0, DV.po 1 0 0, DV.os 5 0 (i + 1), DV.sl t (fun a a_1 => DV.v (Value.int IntKind.i64 (z a))) 1 n,
                  DV.v (Value.int IntKind.i64 (↑n : Int)),
                  DV.v (Value.int IntKind.i64 (IntKind.wrap IntKind.i64 ((↑i : Int) + 1)))]
                [DV.po 0 0 0, DV.po 1 0 0, DV.os 5 0 (i + 1)]
                [some
                    { k := 3,
                      c :=
                        DC.lst
                          [[DV.v (Value.int IntKind.i64 (At.x a)), DV.v (Value.int IntKind.i64 (At.y a)),
                              DV.v (Value.int IntKind.i64 (At.f a))]] },
                  some { k := 3, c := DC.lst [[DV.any, DV.any, DV.any]] }, none, none,
                  some
                    { k := 1,
                      c :=
                        DC.lst
                          [[DV.v
                                (Value.int IntKind.i64
                                  (if 0 > z (Int.toNat (↑i : Int) + 0) then 0 else z (Int.toNat (↑i : Int) + 0)))]] },
                  some
                    { k := 1,
                      c :=
                        DC.app (DC.pre (DC.tab i fun a a_1 => DV.v (Value.int IntKind.i64 (w a))) i)
                          (DC.lst
                            [[DV.v
                                  (Value.int IntKind.i64
                                    (if 0 > z (Int.toNat (↑i : Int) + 0) then 0 else z (Int.toNat (↑i : Int) + 0)))]]) }]
            else none
          else none
        else none
      else none
    else
      K (Ex.exit 0) 108
        [DV.po 0 0 0, DV.po 1 0 0, DV.os 3 0 i, DV.sl t (fun a a_1 => DV.v (Value.int IntKind.i64 (z a))) 1 n,
          DV.v (Value.int IntKind.i64 (↑n : Int)), DV.v (Value.int IntKind.i64 (↑i : Int))]
        [DV.po 0 0 0, DV.po 1 0 0, DV.os 3 0 i]
        [some
            { k := 3,
              c :=
                DC.lst
                  [[DV.v (Value.int IntKind.i64 (At.x a)), DV.v (Value.int IntKind.i64 (At.y a)),
                      DV.v (Value.int IntKind.i64 (At.f a))]] },
          some { k := 3, c := DC.lst [[DV.any, DV.any, DV.any]] }, none,
          some { k := 1, c := DC.tab i fun a a_1 => DV.v (Value.int IntKind.i64 (w a)) }] := by
  kernel_rfl
theorem app1_ok {st : AE.Stat} (hst : CodesIn st) : LoopS Tryd.prog st gl0 (.loop (loopAt Tryd.f13 58)) apI1.g := by
  refine apI1.ok (E := env [] noLp 0) (p := 500) (tblD_env (l := []) (fun _ h => nomatch h)) (glOk hst).1 (fun _ _ _ h => nomatch h) (fun x k h => h) fun x hx => ?_
  obtain ⟨a, z, t, n, i⟩ := x
  obtain ⟨h1, h2⟩ : i ≤ n ∧ n ≤ 1000000 := hx
  refine (app1_tree t a z (mx z) n i _).trans ?_
  have hW : IntKind.i64.wrap ((i : Int) + 1) = ((i + 1 : Nat) : Int) := by rw [W_in (by omega) (by omega)]; omega
  refine dS (fun h => ?_) fun h => ?_
  · have h : i < n := by omega
    refine dT (by omega) (dT (by simp; omega) (dT (Nat.le_refl _) (dT (by omega) ?_)))
    refine LInv.ask_of ⟨rfl, ⟨a, z, t, n, i + 1⟩, ⟨rfl, rfl, rfl, h, h2⟩, ?_, [5], ?_⟩
    · simp only [apI1]; omega
    · refine .of (im := [some 0, some 1, some 5]) (.cons (.po rfl) (.cons (.po rfl) (.cons (.os rfl) (.cons (.sl _ _ _ _) (.cons (.v _) (.cons (.eq (by rw [hW])) .nil)))))) rfl ⟨⟨0, _, rfl, rfl, subA⟩, ⟨1, _, rfl, rfl, subRow (Nat.le_refl _)⟩, ⟨5, _, rfl, rfl, subL_push rfl⟩, trivial⟩ rfl (by decide)
  · obtain rfl : i = n := by omega
    exact LInv.ask_of ⟨rfl, rfl, [3], .of (im := [some 0, some 1, some 3]) (.cons (.po rfl) (.cons (.po rfl) (.cons (.os rfl) .nil))) rfl ⟨⟨0, _, rfl, rfl, subA⟩, ⟨1, _, rfl, rfl, subRow (Nat.le_refl _)⟩, ⟨3, _, rfl, rfl, subL_same⟩, trivial⟩ rfl (by decide)⟩

/-- An empty list stands for a nought. -/
def n1 (n : Nat) : Nat := if n = 0 then 1 else n
def w1 (n : Nat) (w : Nat → Int) : Nat → Int := if n = 0 then fun _ => 0 else w
def apI2 : LInv LX where
  pre x := x.n ≤ 1000000
  m := 4
  n := 108
  ps := [2, 4, 5]
  sd x := [.po 0 0 0, .po 1 0 0, .os 3 0 x.n]
  sh x := [some x.a.b, some row0, none, some (lB x.n x.z)]
  meas _ := 0
  e _ := .normal
  qs := [2, 4, 5]
  od x := [.po 0 0 0, .po 1 0 0, .os 4 0 (n1 x.n)]
  oh x := [some x.a.b, some row0, none, none, some (lB (n1 x.n) (w1 x.n x.z))]
  guess ds σ := match ds, σ with
    | [_, _, .os _ _ n], [some ⟨_, .lst [[.v (.int _ x), .v (.int _ y), .v (.int _ f)]]⟩, _, _, some ⟨_, .tab _ g⟩] => some ⟨⟨x, y, f⟩, fun i => num (g i 0), true, n, 0⟩
    | _, _ => none
  cps x k := k .normal [.po 0 0 0, .po 1 0 0, .os 4 0 (n1 x.n)] [some x.a.b, some row0, none, none, some (lB (n1 x.n) (w1 x.n x.z))]
theorem app2_tree (a : At) (w : Nat → Int) (n : Nat) (K : Ex → Nat → List DV → DHeap → Option Unit) : execD Tryd.prog (env [] noLp 0) (pieceOf Tryd.f13 30) 500 (temps 108 [2, 4, 5] [.po 0 0 0, .po 1 0 0, .os 3 0 n]) [some a.b, some row0, none, some (lB n w)] (fun e τ σ => K e τ.length (pick [2, 4, 5] τ) σ) =
    bif (↑n : Int) == 0 then
      bif decide (n ≤ DC.n (DBlk.c (lB n w))) then
        bif decide ((n + 1) * 8 ≤ 140737488355328) then
          K Ex.normal 108 [DV.po 0 0 0, DV.po 1 0 0, DV.os 5 0 (n + 1)]
            [some
                { k := 3,
                  c :=
                    DC.lst
                      [[DV.v (Value.int IntKind.i64 (At.x a)), DV.v (Value.int IntKind.i64 (At.y a)),
                          DV.v (Value.int IntKind.i64 (At.f a))]] },
              some { k := 3, c := DC.lst [[DV.any, DV.any, DV.any]] }, none, none,
              some { k := 1, c := DC.lst [[DV.v (Value.int IntKind.i64 0)]] },
              some
                { k := 1,
                  c :=
                    DC.app (DC.pre (DC.tab n fun a a_1 => DV.v (Value.int IntKind.i64 (w a))) n)
                      (DC.lst [[DV.v (Value.int IntKind.i64 0)]]) }]
        else none
      else none
    else
      K Ex.normal 108 [DV.po 0 0 0, DV.po 1 0 0, DV.os 3 0 n]
        [some
            { k := 3,
              c :=
                DC.lst
                  [[DV.v (Value.int IntKind.i64 (At.x a)), DV.v (Value.int IntKind.i64 (At.y a)),
                      DV.v (Value.int IntKind.i64 (At.f a))]] },
          some { k := 3, c := DC.lst [[DV.any, DV.any, DV.any]] }, none,
          some { k := 1, c := DC.tab n fun a a_1 => DV.v (Value.int IntKind.i64 (w a)) }] := by
  kernel_rfl
theorem app2_ok {st : AE.Stat} (hst : CodesIn st) : LoopS Tryd.prog st gl0 (pieceOf Tryd.f13 30) apI2.g := by
  refine apI2.okP (E := env [] noLp 0) (p := 500) (tblD_env (l := []) (fun _ h => nomatch h)) (glOk hst).1 (fun _ _ _ h => nomatch h) (fun x k h => h) fun x hx => ?_
  obtain ⟨a, w, t, n, i⟩ := x
  have h2 : n ≤ 1000000 := hx
  refine (app2_tree a w n _).trans ?_
  refine cS (fun h => ?_) fun h => ?_
  · obtain rfl : n = 0 := by simpa using h
    refine dT (Nat.le_refl _) (dT (by decide) ?_)
    exact LInv.askP_of ⟨rfl, rfl, [5], .of (im := [some 0, some 1, some 5]) (.cons (.po rfl) (.cons (.po rfl) (.cons (.os rfl) .nil))) rfl ⟨⟨0, _, rfl, rfl, subA⟩, ⟨1, _, rfl, rfl, subRow (Nat.le_refl _)⟩, ⟨5, _, rfl, rfl, subC_to (Nat.le_refl _) trivial fun i f hi hf => ⟨.v _, by
      obtain rfl : f = 0 := by omega
      obtain rfl : i = 0 := by have : i < 1 := hi; omega
      rfl⟩⟩, trivial⟩ rfl (by decide)⟩
  · have h : n ≠ 0 := by simpa using h
    have e1 : n1 n = n := if_neg h
    have e2 : w1 n w = w := if_neg h
    refine LInv.askP_of ⟨rfl, rfl, [3], ?_⟩
    show WkP 4 [3] _ _ [.po 0 0 0, .po 1 0 0, .os 4 0 (n1 n)] [some a.b, some row0, none, none, some (lB (n1 n) (w1 n w))]
    rw [e1, e2]
    exact .of (im := [some 0, some 1, some 3]) (.cons (.po rfl) (.cons (.po rfl) (.cons (.os rfl) .nil))) rfl ⟨⟨0, _, rfl, rfl, subA⟩, ⟨1, _, rfl, rfl, subRow (Nat.le_refl _)⟩, ⟨3, _, rfl, rfl, subL_same⟩, trivial⟩ rfl (by decide)

/-- The main loop. -/
def flagsF (v f : Int) : Int := IntKind.i64.wrap ↑(BitVec.toNat (BitVec.ofInt 64 (IntKind.i64.wrap ↑(BitVec.toNat (BitVec.ofInt 64 f ||| BitVec.ofInt 64 (flagF v).1)))  &&& ~~~BitVec.ofInt 64 (flagF v).2))
def stepP (v : Int) (a : At) : At := ⟨if (simpleF v 30).2 = true then (simpleF v 30).1 else a.x, if (simpleF v 40).2 = true then (simpleF v 40).1 else a.y, flagsF v a.f⟩
def runP (w : Nat → Int) (n : Nat) : Nat → Nat → At → Bool × At
  | 0, _, a => (false, a)
  | m + 1, i, a =>
    if i < n then
      if w i = 0 then runP w n m (i + 1) dfl
      else if w i = 38 ∨ w i = 48 then
        if (colF (fun j => w (i + 1 + j)) (n - (i + 1))).2 = 0 then (true, a)
        else runP w n m (i + 1 + (colF (fun j => w (i + 1 + j)) (n - (i + 1))).2.toNat) (if w i = 38 then { a with x := (colF (fun j => w (i + 1 + j)) (n - (i + 1))).1 } else { a with y := (colF (fun j => w (i + 1 + j)) (n - (i + 1))).1 })
      else runP w n m (i + 1) (stepP (w i) a)
    else (false, a)
def LX.r (x : LX) : Bool × At := runP x.z x.n (x.n - x.i) x.i x.a
def apI3 : LInv LX where
  pre x := x.i ≤ x.n ∧ x.n ≤ 1000001
  m := 5
  n := 108
  ps := [2, 4, 5, 8]
  sd x := [.po 0 0 0, .po 1 0 0, .os 5 0 x.n, iv x.i]
  sh x := [some x.a.b, some row0, none, none, none, some (lB x.n x.z)]
  meas x := x.n - x.i
  e x := bif x.r.1 then .ret else .exit 2
  qs := [2, 4]
  od _ := [.po 0 0 0, .po 1 0 0]
  oh x := bif x.r.1 then [some row0, some x.r.2.b, none, none, none] else [some x.r.2.b, some row0, none, none, none]
  guess ds σ := match ds, σ with
    | [_, _, .os _ _ n, _], [some ⟨_, .lst [[.v (.int _ x), .v (.int _ y), .v (.int _ f)]]⟩, _, _, _, some ⟨_, .tab _ g⟩] => some ⟨⟨x, y, f⟩, fun i => num (g i 0), true, n, 0⟩
    | _, _ => none
  cps x k := bif x.r.1 then k .ret [.po 0 0 0, .po 1 0 0] [some row0, some x.r.2.b, none, none, none] else k (.exit 2) [.po 0 0 0, .po 1 0 0] [some x.r.2.b, some row0, none, none, none]
noncomputable abbrev appL : List (FuncId × ConF) := [(24, colorC), (25, flagC), (26, simpleC), (21, dflC)]
theorem app3_tree (a : At) (w : Nat → Int) (n i : Nat) (K : Ex → Nat → List DV → List DV → DHeap → Option Unit) : execD Tryd.prog (env appL noLp 0) (loopAt Tryd.f13 250) 500 (temps 108 [2, 4, 5, 8] [.po 0 0 0, .po 1 0 0, .os 5 0 n, iv i]) [some a.b, some row0, none, none, none, some (lB n w)] (fun e τ σ => K e τ.length (pick [2, 4, 5, 8] τ) (pick [2, 4] τ) σ) =
    bif decide ((↑i : Int) < (↑n : Int)) then
      bif decide ((↑i : Int) < (↑n : Int)) then
        bif decide (0 + Int.toNat (↑i : Int) + 0 / DBlk.k (lB n w) < n) then
          bif w (0 + Int.toNat (↑i : Int) + 0 / DBlk.k (lB n w)) == 0 then
            K Ex.normal 108
              [DV.po 0 0 0, DV.po 1 0 0, DV.os 5 0 n,
                DV.v (Value.int IntKind.i64 (IntKind.wrap IntKind.i64 ((↑i : Int) + 1)))]
              [DV.po 0 0 0, DV.po 1 0 0]
              [some
                  { k := 3,
                    c :=
                      DC.upd
                        (DC.upd
                          (DC.upd
                            (DC.lst
                              [[DV.v (Value.int IntKind.i64 (At.x a)), DV.v (Value.int IntKind.i64 (At.y a)),
                                  DV.v (Value.int IntKind.i64 (At.f a))]])
                            0 0 (DV.v (Value.int IntKind.i64 (-1))))
                          0 1 (DV.v (Value.int IntKind.i64 (-1))))
                        0 2 (DV.v (Value.int IntKind.i64 0)) },
                some { k := 3, c := DC.lst [[DV.any, DV.any, DV.any]] }, none, none, none,
                some { k := 1, c := DC.tab n fun a a_1 => DV.v (Value.int IntKind.i64 (w a)) }]
          else
            bif w (0 + Int.toNat (↑i : Int) + 0 / DBlk.k (lB n w)) == 38 then
              bif decide (0 ≤ IntKind.wrap IntKind.i64 ((↑i : Int) + 1)) then
                bif decide (IntKind.wrap IntKind.i64 ((↑i : Int) + 1) ≤ (↑n : Int)) then
                  bif
                      decide
                        (0 + Int.toNat (IntKind.wrap IntKind.i64 ((↑i : Int) + 1)) +
                            (n - Int.toNat (IntKind.wrap IntKind.i64 ((↑i : Int) + 1))) ≤
                          DC.n (DBlk.c (lB n w))) then
                    bif
                        holds
                          (intsOk
                            (fun j f =>
                              DV.v
                                (Value.int IntKind.i64 (w (0 + Int.toNat (IntKind.wrap IntKind.i64 ((↑i : Int) + 1)) + j))))
                            (n - Int.toNat (IntKind.wrap IntKind.i64 ((↑i : Int) + 1)))) then
                      bif
                          Prod.snd
                              (colF (fun i_1 => w (0 + Int.toNat (IntKind.wrap IntKind.i64 ((↑i : Int) + 1)) + i_1))
                                (n - Int.toNat (IntKind.wrap IntKind.i64 ((↑i : Int) + 1)))) ==
                            0 then
                        K Ex.ret 108 [DV.po 0 0 0, DV.po 1 0 0, DV.os 5 0 n, DV.v (Value.int IntKind.i64 (↑i : Int))]
                          [DV.po 0 0 0, DV.po 1 0 0]
                          [some
                              { k := 3,
                                c :=
                                  DC.lst
                                    [[DV.v (Value.int IntKind.i64 (At.x a)), DV.v (Value.int IntKind.i64 (At.y a)),
                                        DV.v (Value.int IntKind.i64 (At.f a))]] },
                            some
                              { k := 3,
                                c :=
                                  DC.upd
                                    (DC.upd
                                      (DC.upd (DC.lst [[DV.any, DV.any, DV.any]]) 0 0
                                        (DV.v (Value.int IntKind.i64 (At.x a))))
                                      0 1 (DV.v (Value.int IntKind.i64 (At.y a))))
                                    0 2 (DV.v (Value.int IntKind.i64 (At.f a))) },
                            none, none, none,
                            some { k := 1, c := DC.tab n fun a a_1 => DV.v (Value.int IntKind.i64 (w a)) }]
                      else
                        bif w (0 + Int.toNat (↑i : Int) + 0 / DBlk.k (lB n w)) == 38 then
                          K Ex.normal 108
                            [DV.po 0 0 0, DV.po 1 0 0, DV.os 5 0 n,
                              DV.v
                                (Value.int IntKind.i64
                                  (IntKind.wrap IntKind.i64
                                    (IntKind.wrap IntKind.i64
                                        ((↑i : Int) +
                                          Prod.snd
                                            (colF
                                              (fun i_1 =>
                                                w (0 + Int.toNat (IntKind.wrap IntKind.i64 ((↑i : Int) + 1)) + i_1))
                                              (n - Int.toNat (IntKind.wrap IntKind.i64 ((↑i : Int) + 1))))) +
                                      1)))]
                            [DV.po 0 0 0, DV.po 1 0 0]
                            [some
                                { k := 3,
                                  c :=
                                    DC.upd
                                      (DC.lst
                                        [[DV.v (Value.int IntKind.i64 (At.x a)), DV.v (Value.int IntKind.i64 (At.y a)),
                                            DV.v (Value.int IntKind.i64 (At.f a))]])
                                      0 0
                                      (DV.v
                                        (Value.int IntKind.i64
                                          (Prod.fst
                                            (colF
                                              (fun i_1 =>
                                                w (0 + Int.toNat (IntKind.wrap IntKind.i64 ((↑i : Int) + 1)) + i_1))
                                              (n - Int.toNat (IntKind.wrap IntKind.i64 ((↑i : Int) + 1))))))) },
                              some { k := 3, c := DC.lst [[DV.any, DV.any, DV.any]] }, none, none, none,
                              some { k := 1, c := DC.tab n fun a a_1 => DV.v (Value.int IntKind.i64 (w a)) }]
                        else
                          K Ex.normal 108
                            [DV.po 0 0 0, DV.po 1 0 0, DV.os 5 0 n,
                              DV.v
                                (Value.int IntKind.i64
                                  (IntKind.wrap IntKind.i64
                                    (IntKind.wrap IntKind.i64
                                        ((↑i : Int) +
                                          Prod.snd
                                            (colF
                                              (fun i_1 =>
                                                w (0 + Int.toNat (IntKind.wrap IntKind.i64 ((↑i : Int) + 1)) + i_1))
                                              (n - Int.toNat (IntKind.wrap IntKind.i64 ((↑i : Int) + 1))))) +
                                      1)))]
                            [DV.po 0 0 0, DV.po 1 0 0]
                            [some
                                { k := 3,
                                  c :=
                                    DC.upd
                                      (DC.lst
                                        [[DV.v (Value.int IntKind.i64 (At.x a)), DV.v (Value.int IntKind.i64 (At.y a)),
                                            DV.v (Value.int IntKind.i64 (At.f a))]])
                                      0 1
                                      (DV.v
                                        (Value.int IntKind.i64
                                          (Prod.fst
                                            (colF
                                              (fun i_1 =>
                                                w (0 + Int.toNat (IntKind.wrap IntKind.i64 ((↑i : Int) + 1)) + i_1))
                                              (n - Int.toNat (IntKind.wrap IntKind.i64 ((↑i : Int) + 1))))))) },
                              some { k := 3, c := DC.lst [[DV.any, DV.any, DV.any]] }, none, none, none,
                              some { k := 1, c := DC.tab n fun a a_1 => DV.v (Value.int IntKind.i64 (w a)) }]
                    else none
                  else none
                else none
              else none
            else
              bif w (0 + Int.toNat (↑i : Int) + 0 / DBlk.k (lB n w)) == 48 then
                bif decide (0 ≤ IntKind.wrap IntKind.i64 ((↑i : Int) + 1)) then
                  bif decide (IntKind.wrap IntKind.i64 ((↑i : Int) + 1) ≤ (↑n : Int)) then
                    bif
                        decide
                          (0 + Int.toNat (IntKind.wrap IntKind.i64 ((↑i : Int) + 1)) +
                              (n - Int.toNat (IntKind.wrap IntKind.i64 ((↑i : Int) + 1))) ≤
                            DC.n (DBlk.c (lB n w))) then
                      bif
                          holds
                            (intsOk
                              (fun j f =>
                                DV.v
                                  (Value.int IntKind.i64
                                    (w (0 + Int.toNat (IntKind.wrap IntKind.i64 ((↑i : Int) + 1)) + j))))
                              (n - Int.toNat (IntKind.wrap IntKind.i64 ((↑i : Int) + 1)))) then
                        bif
                            Prod.snd
                                (colF (fun i_1 => w (0 + Int.toNat (IntKind.wrap IntKind.i64 ((↑i : Int) + 1)) + i_1))
                                  (n - Int.toNat (IntKind.wrap IntKind.i64 ((↑i : Int) + 1)))) ==
                              0 then
                          K Ex.ret 108 [DV.po 0 0 0, DV.po 1 0 0, DV.os 5 0 n, DV.v (Value.int IntKind.i64 (↑i : Int))]
                            [DV.po 0 0 0, DV.po 1 0 0]
                            [some
                                { k := 3,
                                  c :=
                                    DC.lst
                                      [[DV.v (Value.int IntKind.i64 (At.x a)), DV.v (Value.int IntKind.i64 (At.y a)),
                                          DV.v (Value.int IntKind.i64 (At.f a))]] },
                              some
                                { k := 3,
                                  c :=
                                    DC.upd
                                      (DC.upd
                                        (DC.upd (DC.lst [[DV.any, DV.any, DV.any]]) 0 0
                                          (DV.v (Value.int IntKind.i64 (At.x a))))
                                        0 1 (DV.v (Value.int IntKind.i64 (At.y a))))
                                      0 2 (DV.v (Value.int IntKind.i64 (At.f a))) },
                              none, none, none,
                              some { k := 1, c := DC.tab n fun a a_1 => DV.v (Value.int IntKind.i64 (w a)) }]
                        else
                          bif w (0 + Int.toNat (↑i : Int) + 0 / DBlk.k (lB n w)) == 38 then
                            K Ex.normal 108
                              [DV.po 0 0 0, DV.po 1 0 0, DV.os 5 0 n,
                                DV.v
                                  (Value.int IntKind.i64
                                    (IntKind.wrap IntKind.i64
                                      (IntKind.wrap IntKind.i64
                                          ((↑i : Int) +
                                            Prod.snd
                                              (colF
                                                (fun i_1 =>
                                                  w (0 + Int.toNat (IntKind.wrap IntKind.i64 ((↑i : Int) + 1)) + i_1))
                                                (n - Int.toNat (IntKind.wrap IntKind.i64 ((↑i : Int) + 1))))) +
                                        1)))]
                              [DV.po 0 0 0, DV.po 1 0 0]
                              [some
                                  { k := 3,
                                    c :=
                                      DC.upd
                                        (DC.lst
                                          [[DV.v (Value.int IntKind.i64 (At.x a)), DV.v (Value.int IntKind.i64 (At.y a)),
                                              DV.v (Value.int IntKind.i64 (At.f a))]])
                                        0 0
                                        (DV.v
                                          (Value.int IntKind.i64
                                            (Prod.fst
                                              (colF
                                                (fun i_1 =>
                                                  w (0 + Int.toNat (IntKind.wrap IntKind.i64 ((↑i : Int) + 1)) + i_1))
                                                (n - Int.toNat (IntKind.wrap IntKind.i64 ((↑i : Int) + 1))))))) },
                                some { k := 3, c := DC.lst [[DV.any, DV.any, DV.any]] }, none, none, none,
                                some { k := 1, c := DC.tab n fun a a_1 => DV.v (Value.int IntKind.i64 (w a)) }]
                          else
                            K Ex.normal 108
                              [DV.po 0 0 0, DV.po 1 0 0, DV.os 5 0 n,
                                DV.v
                                  (Value.int IntKind.i64
                                    (IntKind.wrap IntKind.i64
                                      (IntKind.wrap IntKind.i64
                                          ((↑i : Int) +
                                            Prod.snd
                                              (colF
                                                (fun i_1 =>
                                                  w (0 + Int.toNat (IntKind.wrap IntKind.i64 ((↑i : Int) + 1)) + i_1))
                                                (n - Int.toNat (IntKind.wrap IntKind.i64 ((↑i : Int) + 1))))) +
                                        1)))]
                              [DV.po 0 0 0, DV.po 1 0 0]
                              [some
                                  { k := 3,
                                    c :=
                                      DC.upd
                                        (DC.lst
                                          [[DV.v (Value.int IntKind.i64 (At.x a)), DV.v (Value.int IntKind.i64 (At.y a)),
                                              DV.v (Value.int IntKind.i64 (At.f a))]])
                                        0 1
                                        (DV.v
                                          (Value.int IntKind.i64
                                            (Prod.fst
                                              (colF
                                                (fun i_1 =>
                                                  w (0 + Int.toNat (IntKind.wrap IntKind.i64 ((↑i : Int) + 1)) + i_1))
                                                (n - Int.toNat (IntKind.wrap IntKind.i64 ((↑i : Int) + 1))))))) },
                                some { k := 3, c := DC.lst [[DV.any, DV.any, DV.any]] }, none, none, none,
                                some { k := 1, c := DC.tab n fun a a_1 => DV.v (Value.int IntKind.i64 (w a)) }]
                      else none
                    else none
                  else none
                else none
              else
                bif (simpleF (w (0 + Int.toNat (↑i : Int) + 0 / DBlk.k (lB n w))) 30).2 then
                  bif (simpleF (w (0 + Int.toNat (↑i : Int) + 0 / DBlk.k (lB n w))) 40).2 then
                    K Ex.normal 108
                      [DV.po 0 0 0, DV.po 1 0 0, DV.os 5 0 n,
                        DV.v (Value.int IntKind.i64 (IntKind.wrap IntKind.i64 ((↑i : Int) + 1)))]
                      [DV.po 0 0 0, DV.po 1 0 0]
                      [some
                          { k := 3,
                            c :=
                              DC.upd
                                (DC.upd
                                  (DC.upd
                                    (DC.lst
                                      [[DV.v (Value.int IntKind.i64 (At.x a)), DV.v (Value.int IntKind.i64 (At.y a)),
                                          DV.v (Value.int IntKind.i64 (At.f a))]])
                                    0 2
                                    (DV.v
                                      (Value.int IntKind.i64
                                        (IntKind.wrap IntKind.i64
                                          (↑(BitVec.toNat
                                                (BitVec.ofInt 64
                                                    (IntKind.wrap IntKind.i64
                                                      (↑(BitVec.toNat
                                                            (BitVec.ofInt 64 (At.f a) |||
                                                              BitVec.ofInt 64
                                                                (Prod.fst
                                                                  (flagF
                                                                    (w
                                                                      (0 + Int.toNat (↑i : Int) +
                                                                        0 / DBlk.k (lB n w))))))) :
                                                        Int)) &&&
                                                  ~~~BitVec.ofInt 64
                                                      (Prod.snd
                                                        (flagF (w (0 + Int.toNat (↑i : Int) + 0 / DBlk.k (lB n w))))))) :
                                            Int)))))
                                  0 0
                                  (DV.v
                                    (Value.int IntKind.i64
                                      (Prod.fst (simpleF (w (0 + Int.toNat (↑i : Int) + 0 / DBlk.k (lB n w))) 30)))))
                                0 1
                                (DV.v
                                  (Value.int IntKind.i64
                                    (Prod.fst (simpleF (w (0 + Int.toNat (↑i : Int) + 0 / DBlk.k (lB n w))) 40)))) },
                        some { k := 3, c := DC.lst [[DV.any, DV.any, DV.any]] }, none, none, none,
                        some { k := 1, c := DC.tab n fun a a_1 => DV.v (Value.int IntKind.i64 (w a)) }]
                  else
                    K Ex.normal 108
                      [DV.po 0 0 0, DV.po 1 0 0, DV.os 5 0 n,
                        DV.v (Value.int IntKind.i64 (IntKind.wrap IntKind.i64 ((↑i : Int) + 1)))]
                      [DV.po 0 0 0, DV.po 1 0 0]
                      [some
                          { k := 3,
                            c :=
                              DC.upd
                                (DC.upd
                                  (DC.lst
                                    [[DV.v (Value.int IntKind.i64 (At.x a)), DV.v (Value.int IntKind.i64 (At.y a)),
                                        DV.v (Value.int IntKind.i64 (At.f a))]])
                                  0 2
                                  (DV.v
                                    (Value.int IntKind.i64
                                      (IntKind.wrap IntKind.i64
                                        (↑(BitVec.toNat
                                              (BitVec.ofInt 64
                                                  (IntKind.wrap IntKind.i64
                                                    (↑(BitVec.toNat
                                                          (BitVec.ofInt 64 (At.f a) |||
                                                            BitVec.ofInt 64
                                                              (Prod.fst
                                                                (flagF
                                                                  (w (0 + Int.toNat (↑i : Int) + 0 / DBlk.k (lB n w))))))) :
                                                      Int)) &&&
                                                ~~~BitVec.ofInt 64
                                                    (Prod.snd
                                                      (flagF (w (0 + Int.toNat (↑i : Int) + 0 / DBlk.k (lB n w))))))) :
                                          Int)))))
                                0 0
                                (DV.v
                                  (Value.int IntKind.i64
                                    (Prod.fst (simpleF (w (0 + Int.toNat (↑i : Int) + 0 / DBlk.k (lB n w))) 30)))) },
                        some { k := 3, c := DC.lst [[DV.any, DV.any, DV.any]] }, none, none, none,
                        some { k := 1, c := DC.tab n fun a a_1 => DV.v (Value.int IntKind.i64 (w a)) }]
                else
                  bif (simpleF (w (0 + Int.toNat (↑i : Int) + 0 / DBlk.k (lB n w))) 40).2 then
                    K Ex.normal 108
                      [DV.po 0 0 0, DV.po 1 0 0, DV.os 5 0 n,
                        DV.v (Value.int IntKind.i64 (IntKind.wrap IntKind.i64 ((↑i : Int) + 1)))]
                      [DV.po 0 0 0, DV.po 1 0 0]
                      [some
                          { k := 3,
                            c :=
                              DC.upd
                                (DC.upd
                                  (DC.lst
                                    [[DV.v (Value.int IntKind.i64 (At.x a)), DV.v (Value.int IntKind.i64 (At.y a)),
                                        DV.v (Value.int IntKind.i64 (At.f a))]])
                                  0 2
                                  (DV.v
                                    (Value.int IntKind.i64
                                      (IntKind.wrap IntKind.i64
                                        (↑(BitVec.toNat
                                              (BitVec.ofInt 64
                                                  (IntKind.wrap IntKind.i64
                                                    (↑(BitVec.toNat
                                                          (BitVec.ofInt 64 (At.f a) |||
                                                            BitVec.ofInt 64
                                                              (Prod.fst
                                                                (flagF
                                                                  (w (0 + Int.toNat (↑i : Int) + 0 / DBlk.k (lB n w))))))) :
                                                      Int)) &&&
                                                ~~~BitVec.ofInt 64
                                                    (Prod.snd
                                                      (flagF (w (0 + Int.toNat (↑i : Int) + 0 / DBlk.k (lB n w))))))) :
                                          Int)))))
                                0 1
                                (DV.v
                                  (Value.int IntKind.i64
                                    (Prod.fst (simpleF (w (0 + Int.toNat (↑i : Int) + 0 / DBlk.k (lB n w))) 40)))) },
                        some { k := 3, c := DC.lst [[DV.any, DV.any, DV.any]] }, none, none, none,
                        some { k := 1, c := DC.tab n fun a a_1 => DV.v (Value.int IntKind.i64 (w a)) }]
                  else
                    K Ex.normal 108
                      [DV.po 0 0 0, DV.po 1 0 0, DV.os 5 0 n,
                        DV.v (Value.int IntKind.i64 (IntKind.wrap IntKind.i64 ((↑i : Int) + 1)))]
                      [DV.po 0 0 0, DV.po 1 0 0]
                      [some
                          { k := 3,
                            c :=
                              DC.upd
                                (DC.lst
                                  [[DV.v (Value.int IntKind.i64 (At.x a)), DV.v (Value.int IntKind.i64 (At.y a)),
                                      DV.v (Value.int IntKind.i64 (At.f a))]])
                                0 2
                                (DV.v
                                  (Value.int IntKind.i64
                                    (IntKind.wrap IntKind.i64
                                      (↑(BitVec.toNat
                                            (BitVec.ofInt 64
                                                (IntKind.wrap IntKind.i64
                                                  (↑(BitVec.toNat
                                                        (BitVec.ofInt 64 (At.f a) |||
                                                          BitVec.ofInt 64
                                                            (Prod.fst
                                                              (flagF
                                                                (w (0 + Int.toNat (↑i : Int) + 0 / DBlk.k (lB n w))))))) :
                                                    Int)) &&&
                                              ~~~BitVec.ofInt 64
                                                  (Prod.snd
                                                    (flagF (w (0 + Int.toNat (↑i : Int) + 0 / DBlk.k (lB n w))))))) :
                                        Int)))) },
                        some { k := 3, c := DC.lst [[DV.any, DV.any, DV.any]] }, none, none, none,
                        some { k := 1, c := DC.tab n fun a a_1 => DV.v (Value.int IntKind.i64 (w a)) }]
        else none
      else none
    else
      K (Ex.exit 2) 108 [DV.po 0 0 0, DV.po 1 0 0, DV.os 5 0 n, DV.v (Value.int IntKind.i64 (↑i : Int))]
        [DV.po 0 0 0, DV.po 1 0 0]
        [some
            { k := 3,
              c :=
                DC.lst
                  [[DV.v (Value.int IntKind.i64 (At.x a)), DV.v (Value.int IntKind.i64 (At.y a)),
                      DV.v (Value.int IntKind.i64 (At.f a))]] },
          some { k := 3, c := DC.lst [[DV.any, DV.any, DV.any]] }, none, none, none,
          some { k := 1, c := DC.tab n fun a a_1 => DV.v (Value.int IntKind.i64 (w a)) }] := by
  kernel_rfl
theorem colF_le (z : Nat → Int) (n : Nat) : (colF z n).2 = 0 ∨ ((colF z n).2 = 2 ∧ 2 ≤ n) ∨ ((colF z n).2 = 4 ∧ 4 ≤ n) := by
  unfold colF
  split
  · exact .inr (.inl ⟨rfl, by omega⟩)
  · split
    · exact .inr (.inr ⟨rfl, by omega⟩)
    · exact .inl rfl
theorem runP_fuel {w : Nat → Int} {n : Nat} : ∀ (m m' i : Nat) (a : At), n - i ≤ m → n - i ≤ m' → runP w n m i a = runP w n m' i a := by
  intro m
  induction m with
  | zero =>
    intro m' i a h1 h2
    cases m' with
    | zero => rfl
    | succ m' =>
      have : ¬ i < n := by omega
      simp only [runP, if_neg this]
  | succ m ih =>
    intro m' i a h1 h2
    cases m' with
    | zero =>
      have : ¬ i < n := by omega
      simp only [runP, if_neg this]
    | succ m' =>
      unfold runP
      split
      · rw [ih m' (i + 1) dfl (by omega) (by omega), ih m' (i + 1) (stepP (w i) a) (by omega) (by omega), ih m' (i + 1 + _) _ (by omega) (by omega)]
      · rfl
theorem app3_ok {st : AE.Stat} (hst : CodesIn st) : LoopS Tryd.prog st gl0 (.loop (loopAt Tryd.f13 250)) apI3.g := by
  have hl : ∀ x ∈ appL, ConOk Tryd.prog st x.1 x.2 := by
    intro x hx
    simp only [appL, List.mem_cons, List.not_mem_nil, or_false] at hx
    rcases hx with rfl | rfl | rfl | rfl
    · exact color_ok hst
    · exact flag_ok hst
    · exact simple_ok hst
    · exact dfl21 hst
  refine apI3.ok (E := env appL noLp 0) (p := 500) (tblD_env hl) (glOk hst).1 (fun _ _ _ h => nomatch h) (fun x k h => ?_) fun x hx => ?_
  · simp only [apI3] at h ⊢
    generalize x.r.1 = b at h ⊢
    cases b <;> exact h
  · obtain ⟨a, w, t, n, i⟩ := x
    obtain ⟨hi1, hi2⟩ : i ≤ n ∧ n ≤ 1000001 := hx
    refine (app3_tree a w n i _).trans ?_
    have hW : IntKind.i64.wrap ((i : Int) + 1) = ((i + 1 : Nat) : Int) := by rw [W_in (by omega) (by omega)]; omega
    have hk : DBlk.k (lB n w) = 1 := rfl
    simp only [hW, hk, Int.toNat_natCast, Nat.zero_add, Nat.zero_div, Nat.add_zero]
    refine dS (fun h => ?_) fun h => ?_
    · have h : i < n := by omega
      obtain ⟨m, hm⟩ : ∃ m, n - i = m + 1 := ⟨n - i - 1, by omega⟩
      have goOn : ∀ (c0 c1 : DC) (a' : At) (i' : Nat) (j : Int), j = (i' : Int) → i < i' → i' ≤ n → 1 ≤ c0.n → 1 ≤ c1.n → c0.get 0 0 = iv a'.x → c0.get 0 1 = iv a'.y → c0.get 0 2 = iv a'.f → runP w n (n - i') i' a' = runP w n (n - i) i a →
          apI3.ask ⟨a, w, t, n, i⟩ .normal 108 [.po 0 0 0, .po 1 0 0, .os 5 0 n, iv j] [.po 0 0 0, .po 1 0 0] [some ⟨3, c0⟩, some ⟨3, c1⟩, none, none, none, some ⟨1, .tab n fun a _ => iv (w a)⟩] = some () := by
        intro c0 c1 a' i' j hj hlt hle n0 n1 e0 e1 e2 hr
        refine LInv.ask_of ⟨rfl, ⟨a', w, t, n, i'⟩, ⟨?_, ?_, ?_, hle, hi2⟩, ?_, [5], .of (im := [some 0, some 1, some 5]) (.cons (.po rfl) (.cons (.po rfl) (.cons (.os rfl) (.cons (.eq (by rw [hj])) .nil)))) rfl
          ⟨⟨0, _, rfl, rfl, subC3 n0 (by rw [e0]; exact .v _) (by rw [e1]; exact .v _) (by rw [e2]; exact .v _)⟩, ⟨1, _, rfl, rfl, subRow n1⟩, ⟨5, _, rfl, rfl, subL_same⟩, trivial⟩ rfl (by decide)⟩
        · simp only [apI3, LX.r, hr]
        · simp only [apI3]
        · simp only [apI3, LX.r, hr]
        · simp only [apI3]; omega
      have hst0 : runP w n (n - i) i a = if w i = 0 then runP w n m (i + 1) dfl
          else if w i = 38 ∨ w i = 48 then
            if (colF (fun j => w (i + 1 + j)) (n - (i + 1))).2 = 0 then (true, a)
            else runP w n m (i + 1 + (colF (fun j => w (i + 1 + j)) (n - (i + 1))).2.toNat) (if w i = 38 then { a with x := (colF (fun j => w (i + 1 + j)) (n - (i + 1))).1 } else { a with y := (colF (fun j => w (i + 1 + j)) (n - (i + 1))).1 })
          else runP w n m (i + 1) (stepP (w i) a) := by
        rw [hm]
        simp only [runP, if_pos h]
      refine dT (by omega) (dT h ?_)
      refine cS (fun h0 => ?_) fun h0 => ?_
      · have h0 : w i = 0 := by simpa using h0
        refine goOn _ _ dfl (i + 1) _ rfl (by omega) (by omega) (Nat.le_refl _) (Nat.le_refl _) rfl rfl rfl ?_
        rw [hst0, if_pos h0]
        exact runP_fuel _ _ _ _ (by omega) (by omega)
      · have h0 : ¬ w i = 0 := by simpa using h0
        have hcol := colF_le (fun j => w (i + 1 + j)) (n - (i + 1))
        generalize hc : colF (fun j => w (i + 1 + j)) (n - (i + 1)) = c at hcol hst0
        have hj : ¬ c.2 = 0 → IntKind.i64.wrap (IntKind.i64.wrap ((i : Int) + c.2) + 1) = ((i + 1 + c.2.toNat : Nat) : Int) := fun hu => by
          rw [W_in (n := (i : Int) + c.2) (by omega) (by omega), W_in (by omega) (by omega)]
          omega
        have back : (w i = 38 ∨ w i = 48) → c.2 = 0 → ∀ (c0 c1 : DC), 1 ≤ c1.n → c1.get 0 0 = iv a.x → c1.get 0 1 = iv a.y → c1.get 0 2 = iv a.f →
            1 ≤ c0.n → apI3.ask ⟨a, w, t, n, i⟩ .ret 108 [.po 0 0 0, .po 1 0 0, .os 5 0 n, iv i] [.po 0 0 0, .po 1 0 0] [some ⟨3, c0⟩, some ⟨3, c1⟩, none, none, none, some ⟨1, .tab n fun a _ => iv (w a)⟩] = some () := by
          intro h3 hu c0 c1 n1 e0 e1 e2 n0
          have hr : LX.r ⟨a, w, t, n, i⟩ = (true, a) := by
            show runP w n (n - i) i a = _
            rw [hst0, if_neg h0, if_pos h3, if_pos hu]
          refine LInv.ask_of ⟨rfl, ?_, [], ?_⟩
          · simp only [apI3, hr]; rfl
          · simp only [apI3, hr]
            exact .of (im := [some 0, some 1]) (.cons (.po rfl) (.cons (.po rfl) .nil)) rfl ⟨⟨0, _, rfl, rfl, subRow n0⟩, ⟨1, _, rfl, rfl, subC3 n1 (by rw [e0]; exact .v _) (by rw [e1]; exact .v _) (by rw [e2]; exact .v _)⟩, trivial⟩ rfl (by decide)
        refine cS (fun h38 => ?_) fun h38 => ?_
        · have e38 : w i = 38 := by simpa using h38
          refine dT (by omega) (dT (by omega) (dT (by show i + 1 + (n - (i + 1)) ≤ n; omega) (hT (intsOk_ints _ _) ?_)))
          refine cS (fun hu => ?_) fun hu => ?_
          · exact back (.inl e38) (by simpa using hu) _ _ (Nat.le_refl _) rfl rfl rfl (Nat.le_refl _)
          · have hu : ¬ c.2 = 0 := by simpa using hu
            refine cT h38 (goOn _ _ { a with x := c.1 } (i + 1 + c.2.toNat) _ (hj hu) (by omega) (by omega) (Nat.le_refl _) (Nat.le_refl _) rfl rfl rfl ?_)
            rw [hst0, if_neg h0, if_pos (.inl e38), if_neg hu, if_pos e38]
            exact runP_fuel _ _ _ _ (by omega) (by omega)
        · have e38 : ¬ w i = 38 := by simpa using h38
          refine cS (fun h48 => ?_) fun h48 => ?_
          · have e48 : w i = 48 := by simpa using h48
            refine dT (by omega) (dT (by omega) (dT (by show i + 1 + (n - (i + 1)) ≤ n; omega) (hT (intsOk_ints _ _) ?_)))
            refine cS (fun hu => ?_) fun hu => ?_
            · exact back (.inr e48) (by simpa using hu) _ _ (Nat.le_refl _) rfl rfl rfl (Nat.le_refl _)
            · have hu : ¬ c.2 = 0 := by simpa using hu
              refine cF h38 (goOn _ _ { a with y := c.1 } (i + 1 + c.2.toNat) _ (hj hu) (by omega) (by omega) (Nat.le_refl _) (Nat.le_refl _) rfl rfl rfl ?_)
              rw [hst0, if_neg h0, if_pos (.inr e48), if_neg hu, if_neg e38]
              exact runP_fuel _ _ _ _ (by omega) (by omega)
          · have e48 : ¬ w i = 48 := by simpa using h48
            have hr : runP w n (n - (i + 1)) (i + 1) (stepP (w i) a) = runP w n (n - i) i a := by
              rw [hst0, if_neg h0, if_neg (by omega)]
              exact runP_fuel _ _ _ _ (by omega) (by omega)
            have sx : ∀ {b : Bool}, (simpleF (w i) 30).2 = b → (stepP (w i) a).x = if b = true then (simpleF (w i) 30).1 else a.x := fun h => by subst h; rfl
            have sy : ∀ {b : Bool}, (simpleF (w i) 40).2 = b → (stepP (w i) a).y = if b = true then (simpleF (w i) 40).1 else a.y := fun h => by subst h; rfl
            refine cS (fun hx => cS (fun hy => ?_) fun hy => ?_) fun hx => cS (fun hy => ?_) fun hy => ?_
            all_goals exact goOn _ _ (stepP (w i) a) (i + 1) _ rfl (by omega) (by omega) (Nat.le_refl _) (Nat.le_refl _) (by rw [sx hx]; rfl) (by rw [sy hy]; rfl) rfl hr
    · obtain rfl : i = n := by omega
      have hr : LX.r ⟨a, w, t, i, i⟩ = (false, a) := by
        show runP w i (i - i) i a = _
        rw [Nat.sub_self]
        rfl
      refine LInv.ask_of ⟨rfl, ?_, [], ?_⟩
      · simp only [apI3, hr]; rfl
      · simp only [apI3, hr]
        exact .of (im := [some 0, some 1]) (.cons (.po rfl) (.cons (.po rfl) .nil)) rfl ⟨⟨0, _, rfl, rfl, subA⟩, ⟨1, _, rfl, rfl, subRow (Nat.le_refl _)⟩, trivial⟩ rfl (by decide)

def applyF (a : At) (z : Nat → Int) (n : Nat) : At := (runP (w1 n (mx z)) (n1 n) (n1 n) 0 a).2
noncomputable def applyC : ConF := fun args k => match args with
  | [.agg [.v (.int .i64 x), .v (.int .i64 y), .v (.int .i64 f)], d] => intsK d fun z n => bif holds (n ≤ 1000000) then k (fun _ => (.agg [iv (applyF ⟨x, y, f⟩ z n).x, iv (applyF ⟨x, y, f⟩ z n).y, iv (applyF ⟨x, y, f⟩ z n).f], [])) else none
  | _ => none
noncomputable abbrev appT : List (Nat × LoopD Unit) := [(58, apI1.g), (30, apI2.g), (250, apI3.g)]
theorem app_fun (x y f : Int) (t : Bool) (z : Nat → Int) (n : Nat) (k : DV → Option Unit) : bodyD Tryd.prog (env [] (lpOf appT) 0) Tryd.f13 [.agg [iv x, iv y, iv f], .sl t (ints z) 1 n] [] (fun d _ => k d) =
    bif decide (0 ≤ IntKind.wrap IntKind.i64 ((↑n : Int) + 1)) then
      bif decide (IntKind.wrap IntKind.i64 ((↑n : Int) + 1) < 9223372036854775808) then
        bif decide (8 * IntKind.wrap IntKind.i64 ((↑n : Int) + 1) ≤ 281474976710656) then
          bif
              holds
                (LInv.pre apI1 { a := { x := x, y := y, f := f }, z := z, t := t, n := n, i := 0 } ∧
                  ∃ ids,
                    WkP 3 ids
                      [DV.po 0 0 0, DV.po 1 0 0, DV.os 2 0 0, DV.sl t (fun a a_1 => DV.v (Value.int IntKind.i64 (z a))) 1 n,
                        DV.v (Value.int IntKind.i64 (↑n : Int)), DV.v (Value.int IntKind.i64 0)]
                      [some
                          { k := 3,
                            c :=
                              DC.lst
                                [[DV.v (Value.int IntKind.i64 x), DV.v (Value.int IntKind.i64 y),
                                    DV.v (Value.int IntKind.i64 f)]] },
                        some
                          { k := 3,
                            c :=
                              DC.lst
                                [[DV.v (Value.int IntKind.i64 0), DV.v (Value.int IntKind.i64 0),
                                    DV.v (Value.int IntKind.i64 0)]] },
                        some { k := 1, c := DC.tab 0 fun a a_1 => DV.v (Value.int IntKind.i64 0) }]
                      [DV.po 0 0 0, DV.po 1 0 0, DV.os 3 0 0, DV.sl t (fun a a_1 => DV.v (Value.int IntKind.i64 (z a))) 1 n,
                        DV.v (Value.int IntKind.i64 (↑n : Int)), DV.v (Value.int IntKind.i64 0)]
                      [some
                          { k := 3,
                            c :=
                              DC.lst
                                [[DV.v (Value.int IntKind.i64 x), DV.v (Value.int IntKind.i64 y),
                                    DV.v (Value.int IntKind.i64 f)]] },
                        some { k := 3, c := DC.lst [[DV.any, DV.any, DV.any]] }, none,
                        some { k := 1, c := DC.tab 0 fun a a_1 => DV.v (Value.int IntKind.i64 (mx z a)) }]) then
            bif
                holds
                  (LInv.pre apI2 { a := { x := x, y := y, f := f }, z := mx z, t := true, n := n, i := 0 } ∧
                    ∃ ids,
                      WkP 4 ids [DV.po 0 0 0, DV.po 1 0 0, DV.os 3 0 n]
                        [some (At.b { x := x, y := y, f := f }), some row0, none, some (lB n (mx z))]
                        [DV.po 0 0 0, DV.po 1 0 0, DV.os 3 0 n]
                        [some
                            { k := 3,
                              c :=
                                DC.lst
                                  [[DV.v (Value.int IntKind.i64 x), DV.v (Value.int IntKind.i64 y),
                                      DV.v (Value.int IntKind.i64 f)]] },
                          some { k := 3, c := DC.lst [[DV.any, DV.any, DV.any]] }, none,
                          some { k := 1, c := DC.tab n fun a a_1 => DV.v (Value.int IntKind.i64 (mx z a)) }]) then
              bif
                  holds
                    (LInv.pre apI3 { a := { x := x, y := y, f := f }, z := w1 n (mx z), t := true, n := n1 n, i := 0 } ∧
                      ∃ ids,
                        WkP 5 ids [DV.po 0 0 0, DV.po 1 0 0, DV.os 4 0 (n1 n), DV.v (Value.int IntKind.i64 0)]
                          [some (At.b { x := x, y := y, f := f }), some row0, none, none, some (lB (n1 n) (w1 n (mx z)))]
                          [DV.po 0 0 0, DV.po 1 0 0, DV.os 5 0 (n1 n), DV.v (Value.int IntKind.i64 0)]
                          [some
                              { k := 3,
                                c :=
                                  DC.lst
                                    [[DV.v (Value.int IntKind.i64 x), DV.v (Value.int IntKind.i64 y),
                                        DV.v (Value.int IntKind.i64 f)]] },
                            some { k := 3, c := DC.lst [[DV.any, DV.any, DV.any]] }, none, none, none,
                            some
                              { k := 1,
                                c := DC.tab (n1 n) fun a a_1 => DV.v (Value.int IntKind.i64 (w1 n (mx z) a)) }]) then
                bif (LX.r { a := { x := x, y := y, f := f }, z := w1 n (mx z), t := true, n := n1 n, i := 0 }).1 then
                  k
                    (DV.agg
                      [DV.v
                          (Value.int IntKind.i64
                            (At.x
                              (Prod.snd
                                (LX.r
                                  { a := { x := x, y := y, f := f }, z := w1 n (mx z), t := true, n := n1 n, i := 0 })))),
                        DV.v
                          (Value.int IntKind.i64
                            (At.y
                              (Prod.snd
                                (LX.r
                                  { a := { x := x, y := y, f := f }, z := w1 n (mx z), t := true, n := n1 n, i := 0 })))),
                        DV.v
                          (Value.int IntKind.i64
                            (At.f
                              (Prod.snd
                                (LX.r
                                  { a := { x := x, y := y, f := f }, z := w1 n (mx z), t := true, n := n1 n, i := 0 }))))])
                else
                  k
                    (DV.agg
                      [DV.v
                          (Value.int IntKind.i64
                            (At.x
                              (Prod.snd
                                (LX.r
                                  { a := { x := x, y := y, f := f }, z := w1 n (mx z), t := true, n := n1 n, i := 0 })))),
                        DV.v
                          (Value.int IntKind.i64
                            (At.y
                              (Prod.snd
                                (LX.r
                                  { a := { x := x, y := y, f := f }, z := w1 n (mx z), t := true, n := n1 n, i := 0 })))),
                        DV.v
                          (Value.int IntKind.i64
                            (At.f
                              (Prod.snd
                                (LX.r
                                  { a := { x := x, y := y, f := f }, z := w1 n (mx z), t := true, n := n1 n, i := 0 }))))])
              else none
            else none
          else none
        else none
      else none
    else none := by
  kernel_rfl
theorem apply_ok {st : AE.Stat} (hst : CodesIn st) : ConOk Tryd.prog st 13 applyC := by
  refine con_flat (mg := []) (l := []) (lp := lpOf appT) (n := 0) (glOk hst) (fun _ h => nomatch h) Tryd.func13 (by kernel_rfl) (by kernel_rfl) (lp_table fun e he => ?_) fun args k hk => ?_
  · simp only [appT, List.mem_cons, List.not_mem_nil, or_false] at he
    rcases he with rfl | rfl | rfl
    · exact ⟨.loop (loopAt Tryd.f13 58), by kernel_rfl, app1_ok hst⟩
    · exact ⟨pieceOf Tryd.f13 30, by kernel_rfl, app2_ok hst⟩
    · exact ⟨.loop (loopAt Tryd.f13 250), by kernel_rfl, app3_ok hst⟩
  · unfold applyC at hk
    split at hk <;> first | (cases hk; done) | skip
    rename_i x y f d
    obtain ⟨t, z, n, hk, hc⟩ := intsK_some hk
    obtain ⟨hn, hk⟩ := bif_none hk
    have hn : n ≤ 1000000 := holds_eq.1 hn
    refine ⟨[.agg [iv x, iv y, iv f], .sl t (ints z) 1 n], _, .self (.cons hc .nil), flR_clo rfl, hk, (app_fun x y f t z n _).trans ?_⟩
    have hW : IntKind.i64.wrap ((n : Int) + 1) = (n : Int) + 1 := W_in (by omega) (by omega)
    simp only [hW]
    have hn1 : n1 n ≤ 1000001 := by unfold n1; split <;> omega
    refine dT (by omega) (dT (by omega) (dT (by omega) ?_))
    refine hT ⟨⟨Nat.zero_le _, hn⟩, [2], .of (im := [some 0, some 1, some 2]) (.cons (.po rfl) (.cons (.po rfl) (.cons (.os rfl) (.cons (.sl _ _ _ _) (.cons (.v _) (.cons (.v _) .nil)))))) rfl ⟨⟨0, _, rfl, rfl, subA⟩, ⟨1, _, rfl, rfl, subRow (Nat.le_refl _)⟩, ⟨2, _, rfl, rfl, subL_nil⟩, trivial⟩ rfl (by decide)⟩ ?_
    refine hT ⟨hn, [], .of (im := [some 0, some 1, some 3]) (.cons (.po rfl) (.cons (.po rfl) (.cons (.os rfl) .nil))) rfl ⟨⟨0, _, rfl, rfl, subA⟩, ⟨1, _, rfl, rfl, subRow (Nat.le_refl _)⟩, ⟨3, _, rfl, rfl, subL_same⟩, trivial⟩ rfl (by decide)⟩ ?_
    refine hT ⟨⟨Nat.zero_le _, hn1⟩, [4], .of (im := [some 0, some 1, some 4]) (.cons (.po rfl) (.cons (.po rfl) (.cons (.os rfl) (.cons (.v _) .nil)))) rfl ⟨⟨0, _, rfl, rfl, subA⟩, ⟨1, _, rfl, rfl, subRow (Nat.le_refl _)⟩, ⟨4, _, rfl, rfl, subL_same⟩, trivial⟩ rfl (by decide)⟩ ?_
    exact cS (fun _ => isD_of rfl) fun _ => isD_of rfl
end Go.Proofs.YtolmaphpfhplpaaDoor
