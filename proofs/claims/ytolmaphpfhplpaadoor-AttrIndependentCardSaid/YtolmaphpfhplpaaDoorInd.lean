/-
  'AttrIndependent': what the law computes is true.
  Condition: none; a plain law, and the law's tree.
-/
import Derived.Test.YtolmaphpfhplpaaDoorOpen
namespace Go.Proofs.YtolmaphpfhplpaaDoor
open Go Go.AE Go.DE Go.RowKit

/-- The two lists. -/
def lowV (v : Int) : Int := IntKind.i64.wrap (1 + Int.tmod (IntKind.i64.wrap v) 29)
def highV (v : Int) : Int := IntKind.i64.wrap (30 + IntKind.i64.wrap v)
theorem lowhigh : ∀ v, v < 256 → (1 ≤ lowV (v : Nat) ∧ lowV (v : Nat) ≤ 29) ∧ highV (v : Nat) = 30 + (v : Nat) := by decide +kernel
def indR (z : Nat → Int) : Nat → Nat → List Int → List Int → List Int × List Int
  | 0, _, L, M => (L, M)
  | m + 1, i, L, M => indR z m (i + 1) (L ++ [lowV (z i)]) (bif highV (z i) != 38 then bif highV (z i) != 48 then M ++ [highV (z i)] else M else M)
structure RX where
  a : At
  t : Bool
  z : Nat → Int
  n : Nat
  i : Nat
  L : List Int
  M : List Int
def RX.r (x : RX) : List Int × List Int := indR x.z (x.n - x.i) x.i x.L x.M
def inI : LInv RX where
  pre x := x.i ≤ x.n ∧ x.n ≤ 100 ∧ x.L.length ≤ x.i ∧ x.M.length ≤ x.i
  m := 3
  n := 84
  ps := [2, 5, 6, 27, 28, 29]
  sd x := [.po 0 0 0, .os 3 0 x.L.length, .os 4 0 x.M.length, .sl x.t (knd .u8 x.z) 1 x.n, iv x.n, iv x.i]
  sh x := [some x.a.b, none, none, some (lL x.L), some (lL x.M)]
  meas x := x.n - x.i
  e _ := .exit 0
  qs := [2, 5, 6]
  od x := [.po 0 0 0, .os 3 0 x.r.1.length, .os 4 0 x.r.2.length]
  oh x := [some x.a.b, none, none, some (lL x.r.1), some (lL x.r.2)]
  guess ds σ := match ds, σ with
    | [_, _, _, .sl t g 1 n, _, _], some ⟨_, .lst [[.v (.int _ x), .v (.int _ y), .v (.int _ f)]]⟩ :: _ => some ⟨⟨x, y, f⟩, t, fun i => num (g i 0), n, 0, [], []⟩
    | _, _ => none
  cps x k := k (.exit 0) [.po 0 0 0, .os 3 0 x.r.1.length, .os 4 0 x.r.2.length] [some x.a.b, none, none, some (lL x.r.1), some (lL x.r.2)]
theorem in_loop (a : At) (t : Bool) (z : Nat → Int) (n i nl nh : Nat) (wl wh : Nat → Int) (K : Ex → Nat → List DV → List DV → DHeap → Option Unit) : execD Tryd.prog (env [] noLp 0) (loopAt Tryd.f7 122) 500 (temps 84 [2, 5, 6, 27, 28, 29] [.po 0 0 0, .os 3 0 nl, .os 4 0 nh, .sl t (knd .u8 z) 1 n, iv n, iv i]) [some a.b, none, none, some (lB nl wl), some (lB nh wh)] (fun e τ σ => K e τ.length (pick [2, 5, 6, 27, 28, 29] τ) (pick [2, 5, 6] τ) σ) =
    bif decide ((↑i : Int) < (↑n : Int)) then
      bif decide ((↑i : Int) < (↑n : Int)) then
        bif decide (Int.toNat (↑i : Int) + (0 : Nat) < n) then
          bif decide (nl ≤ DC.n (DBlk.c (lB nl wl))) then
            bif decide ((nl + (1 : Nat)) * (8 : Nat) ≤ (140737488355328 : Nat)) then
              bif
                  IntKind.wrap IntKind.i64 ((30 : Int) + IntKind.wrap IntKind.i64 (z (Int.toNat (↑i : Int) + (0 : Nat)))) !=
                    (38 : Int) then
                bif
                    IntKind.wrap IntKind.i64
                        ((30 : Int) + IntKind.wrap IntKind.i64 (z (Int.toNat (↑i : Int) + (0 : Nat)))) !=
                      (48 : Int) then
                  bif decide (nh ≤ DC.n (DBlk.c (lB nh wh))) then
                    bif decide ((nh + (1 : Nat)) * (8 : Nat) ≤ (140737488355328 : Nat)) then
                      K Ex.normal (84 : Nat)
                        [DV.po (0 : Nat) (0 : Nat) (0 : Nat), DV.os (6 : Nat) (0 : Nat) (nl + (1 : Nat)),
                          DV.os (8 : Nat) (0 : Nat) (nh + (1 : Nat)),
                          DV.sl t (fun a a_1 => DV.v (Value.int IntKind.u8 (z a))) (1 : Nat) n,
                          DV.v (Value.int IntKind.i64 (↑n : Int)),
                          DV.v (Value.int IntKind.i64 (IntKind.wrap IntKind.i64 ((↑i : Int) + (1 : Int))))]
                        [DV.po (0 : Nat) (0 : Nat) (0 : Nat), DV.os (6 : Nat) (0 : Nat) (nl + (1 : Nat)),
                          DV.os (8 : Nat) (0 : Nat) (nh + (1 : Nat))]
                        [some
                            { k := (3 : Nat),
                              c :=
                                DC.lst
                                  [[DV.v (Value.int IntKind.i64 (At.x a)), DV.v (Value.int IntKind.i64 (At.y a)),
                                      DV.v (Value.int IntKind.i64 (At.f a))]] },
                          none, none, none, none,
                          some
                            { k := (1 : Nat),
                              c :=
                                DC.lst
                                  [[DV.v
                                        (Value.int IntKind.i64
                                          (IntKind.wrap IntKind.i64
                                            ((1 : Int) +
                                              Int.tmod (IntKind.wrap IntKind.i64 (z (Int.toNat (↑i : Int) + (0 : Nat))))
                                                (29 : Int))))]] },
                          some
                            { k := (1 : Nat),
                              c :=
                                DC.app (DC.pre (DC.tab nl fun a a_1 => DV.v (Value.int IntKind.i64 (wl a))) nl)
                                  (DC.lst
                                    [[DV.v
                                          (Value.int IntKind.i64
                                            (IntKind.wrap IntKind.i64
                                              ((1 : Int) +
                                                Int.tmod (IntKind.wrap IntKind.i64 (z (Int.toNat (↑i : Int) + (0 : Nat))))
                                                  (29 : Int))))]]) },
                          some
                            { k := (1 : Nat),
                              c :=
                                DC.lst
                                  [[DV.v
                                        (Value.int IntKind.i64
                                          (IntKind.wrap IntKind.i64
                                            ((30 : Int) +
                                              IntKind.wrap IntKind.i64 (z (Int.toNat (↑i : Int) + (0 : Nat))))))]] },
                          some
                            { k := (1 : Nat),
                              c :=
                                DC.app (DC.pre (DC.tab nh fun a a_1 => DV.v (Value.int IntKind.i64 (wh a))) nh)
                                  (DC.lst
                                    [[DV.v
                                          (Value.int IntKind.i64
                                            (IntKind.wrap IntKind.i64
                                              ((30 : Int) +
                                                IntKind.wrap IntKind.i64 (z (Int.toNat (↑i : Int) + (0 : Nat))))))]]) }]
                    else none
                  else none
                else
                  K Ex.normal (84 : Nat)
                    [DV.po (0 : Nat) (0 : Nat) (0 : Nat), DV.os (6 : Nat) (0 : Nat) (nl + (1 : Nat)),
                      DV.os (4 : Nat) (0 : Nat) nh, DV.sl t (fun a a_1 => DV.v (Value.int IntKind.u8 (z a))) (1 : Nat) n,
                      DV.v (Value.int IntKind.i64 (↑n : Int)),
                      DV.v (Value.int IntKind.i64 (IntKind.wrap IntKind.i64 ((↑i : Int) + (1 : Int))))]
                    [DV.po (0 : Nat) (0 : Nat) (0 : Nat), DV.os (6 : Nat) (0 : Nat) (nl + (1 : Nat)),
                      DV.os (4 : Nat) (0 : Nat) nh]
                    [some
                        { k := (3 : Nat),
                          c :=
                            DC.lst
                              [[DV.v (Value.int IntKind.i64 (At.x a)), DV.v (Value.int IntKind.i64 (At.y a)),
                                  DV.v (Value.int IntKind.i64 (At.f a))]] },
                      none, none, none,
                      some { k := (1 : Nat), c := DC.tab nh fun a a_1 => DV.v (Value.int IntKind.i64 (wh a)) },
                      some
                        { k := (1 : Nat),
                          c :=
                            DC.lst
                              [[DV.v
                                    (Value.int IntKind.i64
                                      (IntKind.wrap IntKind.i64
                                        ((1 : Int) +
                                          Int.tmod (IntKind.wrap IntKind.i64 (z (Int.toNat (↑i : Int) + (0 : Nat))))
                                            (29 : Int))))]] },
                      some
                        { k := (1 : Nat),
                          c :=
                            DC.app (DC.pre (DC.tab nl fun a a_1 => DV.v (Value.int IntKind.i64 (wl a))) nl)
                              (DC.lst
                                [[DV.v
                                      (Value.int IntKind.i64
                                        (IntKind.wrap IntKind.i64
                                          ((1 : Int) +
                                            Int.tmod (IntKind.wrap IntKind.i64 (z (Int.toNat (↑i : Int) + (0 : Nat))))
                                              (29 : Int))))]]) }]
              else
                K Ex.normal (84 : Nat)
                  [DV.po (0 : Nat) (0 : Nat) (0 : Nat), DV.os (6 : Nat) (0 : Nat) (nl + (1 : Nat)),
                    DV.os (4 : Nat) (0 : Nat) nh, DV.sl t (fun a a_1 => DV.v (Value.int IntKind.u8 (z a))) (1 : Nat) n,
                    DV.v (Value.int IntKind.i64 (↑n : Int)),
                    DV.v (Value.int IntKind.i64 (IntKind.wrap IntKind.i64 ((↑i : Int) + (1 : Int))))]
                  [DV.po (0 : Nat) (0 : Nat) (0 : Nat), DV.os (6 : Nat) (0 : Nat) (nl + (1 : Nat)),
                    DV.os (4 : Nat) (0 : Nat) nh]
                  [some
                      { k := (3 : Nat),
                        c :=
                          DC.lst
                            [[DV.v (Value.int IntKind.i64 (At.x a)), DV.v (Value.int IntKind.i64 (At.y a)),
                                DV.v (Value.int IntKind.i64 (At.f a))]] },
                    none, none, none,
                    some { k := (1 : Nat), c := DC.tab nh fun a a_1 => DV.v (Value.int IntKind.i64 (wh a)) },
                    some
                      { k := (1 : Nat),
                        c :=
                          DC.lst
                            [[DV.v
                                  (Value.int IntKind.i64
                                    (IntKind.wrap IntKind.i64
                                      ((1 : Int) +
                                        Int.tmod (IntKind.wrap IntKind.i64 (z (Int.toNat (↑i : Int) + (0 : Nat))))
                                          (29 : Int))))]] },
                    some
                      { k := (1 : Nat),
                        c :=
                          DC.app (DC.pre (DC.tab nl fun a a_1 => DV.v (Value.int IntKind.i64 (wl a))) nl)
                            (DC.lst
                              [[DV.v
                                    (Value.int IntKind.i64
                                      (IntKind.wrap IntKind.i64
                                        ((1 : Int) +
                                          Int.tmod (IntKind.wrap IntKind.i64 (z (Int.toNat (↑i : Int) + (0 : Nat))))
                                            (29 : Int))))]]) }]
            else none
          else none
        else none
      else none
    else
      K (Ex.exit (0 : Nat)) (84 : Nat)
        [DV.po (0 : Nat) (0 : Nat) (0 : Nat), DV.os (3 : Nat) (0 : Nat) nl, DV.os (4 : Nat) (0 : Nat) nh,
          DV.sl t (fun a a_1 => DV.v (Value.int IntKind.u8 (z a))) (1 : Nat) n, DV.v (Value.int IntKind.i64 (↑n : Int)),
          DV.v (Value.int IntKind.i64 (↑i : Int))]
        [DV.po (0 : Nat) (0 : Nat) (0 : Nat), DV.os (3 : Nat) (0 : Nat) nl, DV.os (4 : Nat) (0 : Nat) nh]
        [some
            { k := (3 : Nat),
              c :=
                DC.lst
                  [[DV.v (Value.int IntKind.i64 (At.x a)), DV.v (Value.int IntKind.i64 (At.y a)),
                      DV.v (Value.int IntKind.i64 (At.f a))]] },
          none, none, some { k := (1 : Nat), c := DC.tab nl fun a a_1 => DV.v (Value.int IntKind.i64 (wl a)) },
          some { k := (1 : Nat), c := DC.tab nh fun a a_1 => DV.v (Value.int IntKind.i64 (wh a)) }] := by
  kernel_rfl
theorem in_ls {st : AE.Stat} (hst : CodesIn st) : LoopS Tryd.prog st gl0 (.loop (loopAt Tryd.f7 122)) inI.g := by
  refine inI.ok (E := env [] noLp 0) (p := 500) (tblD_env (l := []) (fun _ h => nomatch h)) (glOk hst).1 (fun _ _ _ h => nomatch h) (fun x k h => h) fun x hx => ?_
  obtain ⟨a, t, z, n, i, L, M⟩ := x
  obtain ⟨h1, h2, h3, h4⟩ : i ≤ n ∧ n ≤ 100 ∧ L.length ≤ i ∧ M.length ≤ i := hx
  refine (in_loop a t z n i L.length M.length (lw L) (lw M) _).trans ?_
  have hW : IntKind.i64.wrap ((i : Int) + 1) = ((i + 1 : Nat) : Int) := by rw [W_in (by omega) (by omega)]; omega
  simp only [hW, Int.toNat_natCast, Nat.add_zero]
  refine dS (fun h => ?_) fun h => ?_
  · have h : i < n := by omega
    obtain ⟨m, hm⟩ : ∃ m, n - i = m + 1 := ⟨n - i - 1, by omega⟩
    refine dT (by omega) (dT h (dT (Nat.le_refl _) (dT (by omega) ?_)))
    have same : ∀ (c : DBlk), c = ⟨1, .app (.pre (.tab L.length (ints (lw L))) L.length) (.lst [[iv (lowV (z i))]])⟩ → (bif highV (z i) != 38 then bif highV (z i) != 48 then M ++ [highV (z i)] else M else M) = M →
        inI.ask ⟨a, t, z, n, i, L, M⟩ .normal 84 [.po 0 0 0, .os 6 0 (L.length + 1), .os 4 0 M.length, .sl t (knd .u8 z) 1 n, iv n, iv ((i + 1 : Nat) : Int)] [.po 0 0 0, .os 6 0 (L.length + 1), .os 4 0 M.length] [some a.b, none, none, none, some (lL M), some ⟨1, .lst [[iv (lowV (z i))]]⟩, some c] = some () := fun c hc hM => by
      subst hc
      have hr : RX.r ⟨a, t, z, n, i + 1, L ++ [lowV (z i)], M⟩ = RX.r ⟨a, t, z, n, i, L, M⟩ := by
        simp only [RX.r, hm, indR, hM, show n - (i + 1) = m by omega]
      refine LInv.ask_of ⟨rfl, ⟨a, t, z, n, i + 1, L ++ [lowV (z i)], M⟩, ⟨rfl, ?_, ?_, h, h2, ?_, ?_⟩, ?_, [6, 4], ?_⟩
      · simp only [inI, hr]
      · simp only [inI, hr]
      · simp only [List.length_append, List.length_cons, List.length_nil]; omega
      · show M.length ≤ i + 1; omega
      · simp only [inI]; omega
      · show WkP 3 [6, 4] _ _ [.po 0 0 0, .os 3 0 (L ++ [lowV (z i)]).length, .os 4 0 M.length, .sl t (knd .u8 z) 1 n, iv n, iv ((i + 1 : Nat) : Int)] [some a.b, none, none, some (lL (L ++ [lowV (z i)])), some (lL M)]
        rw [show (L ++ [lowV (z i)]).length = L.length + 1 by simp]
        exact .of (im := [some 0, some 6, some 4]) (.cons (.po rfl) (.cons (.os rfl) (.cons (.os rfl) (.cons (.sl _ _ _ _) (.cons (.v _) (.cons (.v _) .nil)))))) rfl ⟨⟨0, _, rfl, rfl, subA⟩, ⟨6, _, rfl, rfl, (Has.app rfl .tab (.one rfl)).sub⟩, ⟨4, _, rfl, rfl, Has.tab.sub⟩, trivial⟩ rfl (by decide)
    refine cS (fun h38 => cS (fun h48 => ?_) fun h48 => ?_) fun h38 => ?_
    · refine dT (Nat.le_refl _) (dT (by omega) ?_)
      have h38 : (highV (z i) != 38) = true := h38
      have h48 : (highV (z i) != 48) = true := h48
      have hr : RX.r ⟨a, t, z, n, i + 1, L ++ [lowV (z i)], M ++ [highV (z i)]⟩ = RX.r ⟨a, t, z, n, i, L, M⟩ := by
        simp only [RX.r, hm, indR, h38, h48, cond_true, show n - (i + 1) = m by omega]
      refine LInv.ask_of ⟨rfl, ⟨a, t, z, n, i + 1, L ++ [lowV (z i)], M ++ [highV (z i)]⟩, ⟨rfl, ?_, ?_, h, h2, ?_, ?_⟩, ?_, [6, 8], ?_⟩
      · simp only [inI, hr]
      · simp only [inI, hr]
      · simp only [List.length_append, List.length_cons, List.length_nil]; omega
      · simp only [List.length_append, List.length_cons, List.length_nil]; omega
      · simp only [inI]; omega
      · show WkP 3 [6, 8] _ _ [.po 0 0 0, .os 3 0 (L ++ [lowV (z i)]).length, .os 4 0 (M ++ [highV (z i)]).length, .sl t (knd .u8 z) 1 n, iv n, iv ((i + 1 : Nat) : Int)] [some a.b, none, none, some (lL (L ++ [lowV (z i)])), some (lL (M ++ [highV (z i)]))]
        rw [show (L ++ [lowV (z i)]).length = L.length + 1 by simp, show (M ++ [highV (z i)]).length = M.length + 1 by simp]
        exact .of (im := [some 0, some 6, some 8]) (.cons (.po rfl) (.cons (.os rfl) (.cons (.os rfl) (.cons (.sl _ _ _ _) (.cons (.v _) (.cons (.v _) .nil)))))) rfl ⟨⟨0, _, rfl, rfl, subA⟩, ⟨6, _, rfl, rfl, (Has.app rfl .tab (.one rfl)).sub⟩, ⟨8, _, rfl, rfl, (Has.app rfl .tab (.one rfl)).sub⟩, trivial⟩ rfl (by decide)
    · have h38 : (highV (z i) != 38) = true := h38
      have h48 : (highV (z i) != 48) = false := h48
      exact same _ rfl (by rw [h38, h48]; rfl)
    · have h38 : (highV (z i) != 38) = false := h38
      exact same _ rfl (by rw [h38]; rfl)
  · obtain rfl : i = n := by omega
    have hr : RX.r ⟨a, t, z, i, i, L, M⟩ = (L, M) := by simp only [RX.r, Nat.sub_self, indR]
    refine LInv.ask_of ⟨rfl, rfl, [3, 4], ?_⟩
    simp only [inI, hr]
    exact .of (im := [some 0, some 3, some 4]) (.cons (.po rfl) (.cons (.os rfl) (.cons (.os rfl) .nil))) rfl ⟨⟨0, _, rfl, rfl, subA⟩, ⟨3, _, rfl, rfl, Has.tab.sub⟩, ⟨4, _, rfl, rfl, Has.tab.sub⟩, trivial⟩ rfl (by decide)

theorem in_tree (x y f : Int) (t : Bool) (z : Nat → Int) (n : Nat) (k : DV → Option Unit) : bodyD Tryd.prog (env lawT (lpOf [(122, inI.g)]) 0) Tryd.f7 [.agg [iv x, iv y, iv f], .sl t (knd .u8 z) 1 n] [] (fun d _ => k d) =
    bif chkF { x := x, y := y, f := f } != (0 : Int) then k (DV.v (Value.bool true))
    else
      bif (↑n : Int) == (0 : Int) then k (DV.v (Value.bool true))
      else
        bif decide ((↑n : Int) > (40 : Int)) then k (DV.v (Value.bool true))
        else
          bif
              holds
                (LInv.pre inI
                    { a := { x := x, y := y, f := f }, t := t, z := z, n := n, i := (0 : Nat), L := [], M := [] } ∧
                  ∃ ids,
                    WkP (3 : Nat) ids
                      [DV.po (0 : Nat) (0 : Nat) (0 : Nat), DV.os (1 : Nat) (0 : Nat) (0 : Nat),
                        DV.os (2 : Nat) (0 : Nat) (0 : Nat),
                        DV.sl t (fun a a_1 => DV.v (Value.int IntKind.u8 (z a))) (1 : Nat) n,
                        DV.v (Value.int IntKind.i64 (↑n : Int)), DV.v (Value.int IntKind.i64 (0 : Int))]
                      [some
                          { k := (3 : Nat),
                            c :=
                              DC.lst
                                [[DV.v (Value.int IntKind.i64 x), DV.v (Value.int IntKind.i64 y),
                                    DV.v (Value.int IntKind.i64 f)]] },
                        some { k := (1 : Nat), c := DC.lst [] }, some { k := (1 : Nat), c := DC.lst [] }]
                      [DV.po (0 : Nat) (0 : Nat) (0 : Nat), DV.os (3 : Nat) (0 : Nat) (0 : Nat),
                        DV.os (4 : Nat) (0 : Nat) (0 : Nat),
                        DV.sl t (fun a a_1 => DV.v (Value.int IntKind.u8 (z a))) (1 : Nat) n,
                        DV.v (Value.int IntKind.i64 (↑n : Int)), DV.v (Value.int IntKind.i64 (0 : Int))]
                      [some
                          { k := (3 : Nat),
                            c :=
                              DC.lst
                                [[DV.v (Value.int IntKind.i64 x), DV.v (Value.int IntKind.i64 y),
                                    DV.v (Value.int IntKind.i64 f)]] },
                        none, none,
                        some { k := (1 : Nat), c := DC.tab (0 : Nat) fun a a_1 => DV.v (Value.int IntKind.i64 (lw [] a)) },
                        some
                          { k := (1 : Nat),
                            c := DC.tab (0 : Nat) fun a a_1 => DV.v (Value.int IntKind.i64 (lw [] a)) }]) then
            bif
                decide
                  ((0 : Nat) +
                      List.length
                        (Prod.fst
                          (RX.r
                            { a := { x := x, y := y, f := f }, t := t, z := z, n := n, i := (0 : Nat), L := [],
                              M := [] })) ≤
                    DC.n
                      (DBlk.c
                        (lL
                          (Prod.fst
                            (RX.r
                              { a := { x := x, y := y, f := f }, t := t, z := z, n := n, i := (0 : Nat), L := [],
                                M := [] }))))) then
              bif
                  holds
                    (intsOk
                      (fun j f_1 =>
                        DV.v
                          (Value.int IntKind.i64
                            (lw
                              (Prod.fst
                                (RX.r
                                  { a := { x := x, y := y, f := f }, t := t, z := z, n := n, i := (0 : Nat), L := [],
                                    M := [] }))
                              ((0 : Nat) + j))))
                      (List.length
                        (Prod.fst
                          (RX.r
                            { a := { x := x, y := y, f := f }, t := t, z := z, n := n, i := (0 : Nat), L := [],
                              M := [] })))) then
                bif
                    holds
                      (List.length
                          (Prod.fst
                            (RX.r
                              { a := { x := x, y := y, f := f }, t := t, z := z, n := n, i := (0 : Nat), L := [],
                                M := [] })) ≤
                        (1000000 : Nat)) then
                  bif
                      At.x
                          (applyF { x := x, y := y, f := f }
                            (fun i =>
                              lw
                                (Prod.fst
                                  (RX.r
                                    { a := { x := x, y := y, f := f }, t := t, z := z, n := n, i := (0 : Nat), L := [],
                                      M := [] }))
                                ((0 : Nat) + i))
                            (List.length
                              (Prod.fst
                                (RX.r
                                  { a := { x := x, y := y, f := f }, t := t, z := z, n := n, i := (0 : Nat), L := [],
                                    M := [] })))) !=
                        x then
                    k (DV.v (Value.bool false))
                  else
                    bif
                        At.y
                            (applyF { x := x, y := y, f := f }
                              (fun i =>
                                lw
                                  (Prod.fst
                                    (RX.r
                                      { a := { x := x, y := y, f := f }, t := t, z := z, n := n, i := (0 : Nat), L := [],
                                        M := [] }))
                                  ((0 : Nat) + i))
                              (List.length
                                (Prod.fst
                                  (RX.r
                                    { a := { x := x, y := y, f := f }, t := t, z := z, n := n, i := (0 : Nat), L := [],
                                      M := [] })))) !=
                          y then
                      k (DV.v (Value.bool false))
                    else
                      bif
                          (↑(List.length
                                  (Prod.snd
                                    (RX.r
                                      { a := { x := x, y := y, f := f }, t := t, z := z, n := n, i := (0 : Nat), L := [],
                                        M := [] }))) :
                              Int) ==
                            (0 : Int) then
                        k (DV.v (Value.bool true))
                      else
                        bif
                            decide
                              ((0 : Nat) +
                                  List.length
                                    (Prod.snd
                                      (RX.r
                                        { a := { x := x, y := y, f := f }, t := t, z := z, n := n, i := (0 : Nat), L := [],
                                          M := [] })) ≤
                                DC.n
                                  (DBlk.c
                                    (lL
                                      (Prod.snd
                                        (RX.r
                                          { a := { x := x, y := y, f := f }, t := t, z := z, n := n, i := (0 : Nat),
                                            L := [], M := [] }))))) then
                          bif
                              holds
                                (intsOk
                                  (fun j f_1 =>
                                    DV.v
                                      (Value.int IntKind.i64
                                        (lw
                                          (Prod.snd
                                            (RX.r
                                              { a := { x := x, y := y, f := f }, t := t, z := z, n := n, i := (0 : Nat),
                                                L := [], M := [] }))
                                          ((0 : Nat) + j))))
                                  (List.length
                                    (Prod.snd
                                      (RX.r
                                        { a := { x := x, y := y, f := f }, t := t, z := z, n := n, i := (0 : Nat), L := [],
                                          M := [] })))) then
                            bif
                                holds
                                  (List.length
                                      (Prod.snd
                                        (RX.r
                                          { a := { x := x, y := y, f := f }, t := t, z := z, n := n, i := (0 : Nat),
                                            L := [], M := [] })) ≤
                                    (1000000 : Nat)) then
                              bif
                                  At.f
                                      (applyF { x := x, y := y, f := f }
                                        (fun i =>
                                          lw
                                            (Prod.snd
                                              (RX.r
                                                { a := { x := x, y := y, f := f }, t := t, z := z, n := n, i := (0 : Nat),
                                                  L := [], M := [] }))
                                            ((0 : Nat) + i))
                                        (List.length
                                          (Prod.snd
                                            (RX.r
                                              { a := { x := x, y := y, f := f }, t := t, z := z, n := n, i := (0 : Nat),
                                                L := [], M := [] })))) ==
                                    f then
                                k (DV.v (Value.bool true))
                              else k (DV.v (Value.bool false))
                            else none
                          else none
                        else none
                else none
              else none
            else none
          else none := by
  kernel_rfl

/-- What the lists hold. -/
def LowOk (L : List Int) : Prop := ∀ v ∈ L, 1 ≤ v ∧ v ≤ 29
def HighOk (L : List Int) : Prop := ∀ v ∈ L, 30 ≤ v ∧ v ≤ 1000 ∧ v ≠ 38 ∧ v ≠ 48
theorem indR_ok {z : Nat → Int} : ∀ (m i : Nat) (L M : List Int), (∀ j, j < i + m → 0 ≤ z j ∧ z j ≤ 255) → LowOk L → HighOk M → LowOk (indR z m i L M).1 ∧ HighOk (indR z m i L M).2 ∧ (indR z m i L M).1.length = L.length + m ∧ (indR z m i L M).2.length ≤ M.length + m
  | 0, i, L, M, _, hL, hM => ⟨hL, hM, rfl, Nat.le_refl _⟩
  | m + 1, i, L, M, hz, hL, hM => by
    have hb := hz i (by omega)
    obtain ⟨k, hk⟩ : ∃ k : Nat, z i = k := ⟨(z i).toNat, by omega⟩
    have hlh := lowhigh k (by omega)
    rw [← hk] at hlh
    have hL' : LowOk (L ++ [lowV (z i)]) := fun v hv => by
      rcases List.mem_append.1 hv with hv | hv
      · exact hL v hv
      · obtain rfl : v = lowV (z i) := by simpa using hv
        exact hlh.1
    rw [indR]
    cases h38 : highV (z i) != 38
    · obtain ⟨q1, q2, q3, q4⟩ := indR_ok m (i + 1) (L ++ [lowV (z i)]) M (fun j hj => hz j (by omega)) hL' hM
      rw [cond_false]
      refine ⟨q1, q2, ?_, by omega⟩
      rw [q3]
      simp only [List.length_append, List.length_cons, List.length_nil]
      omega
    · rw [cond_true]
      cases h48 : highV (z i) != 48
      · obtain ⟨q1, q2, q3, q4⟩ := indR_ok m (i + 1) (L ++ [lowV (z i)]) M (fun j hj => hz j (by omega)) hL' hM
        rw [cond_false]
        refine ⟨q1, q2, ?_, by omega⟩
        rw [q3]
        simp only [List.length_append, List.length_cons, List.length_nil]
        omega
      · have hM' : HighOk (M ++ [highV (z i)]) := fun v hv => by
          rcases List.mem_append.1 hv with hv | hv
          · exact hM v hv
          · obtain rfl : v = highV (z i) := by simpa using hv
            have a1 : highV (z i) ≠ 38 := by simpa using h38
            have a2 : highV (z i) ≠ 48 := by simpa using h48
            have := hlh.2
            omega
        obtain ⟨q1, q2, q3, q4⟩ := indR_ok m (i + 1) (L ++ [lowV (z i)]) (M ++ [highV (z i)]) (fun j hj => hz j (by omega)) hL' hM'
        rw [cond_true]
        simp only [List.length_append, List.length_cons, List.length_nil] at q3 q4
        exact ⟨q1, q2, by omega, by omega⟩
theorem run_low : ∀ (L : List Int) (a : At), LowOk L → (run L a).2.x = a.x ∧ (run L a).2.y = a.y
  | [], _, _ => ⟨rfl, rfl⟩
  | v :: L, a, h => by
    have hv := h v (by simp)
    have hL : LowOk L := fun w hw => h w (by simp [hw])
    rw [run_step _ _ (by omega) (by omega)]
    obtain ⟨h1, h2⟩ := run_low L (stepP v a) hL
    have e1 : (stepP v a).x = a.x := by
      show (if (simpleF v 30).2 = true then (simpleF v 30).1 else a.x) = a.x
      rw [simple_in a.x (by omega) (by omega) (by omega) (by omega)]
      unfold sxF
      rw [if_neg (by omega), if_neg (by omega), if_neg (by omega)]
    have e2 : (stepP v a).y = a.y := by
      show (if (simpleF v 40).2 = true then (simpleF v 40).1 else a.y) = a.y
      rw [simple_in a.y (by omega) (by omega) (by omega) (by omega)]
      unfold sxF
      rw [if_neg (by omega), if_neg (by omega), if_neg (by omega)]
    exact ⟨h1.trans e1, h2.trans e2⟩
theorem run_high : ∀ (L : List Int) (a : At), HighOk L → Fok a → (run L a).2.f = a.f
  | [], _, _, _ => rfl
  | v :: L, a, h, ha => by
    have hv := h v (by simp)
    have hL : HighOk L := fun w hw => h w (by simp [hw])
    rw [run_step _ _ (by omega) (by omega), step_hi (by omega) (by omega) ha]
    exact run_high L _ hL ha
theorem in_true (x y f : Int) (t : Bool) (z : Nat → Int) (n : Nat) (hz : ∀ j, j < n → 0 ≤ z j ∧ z j ≤ 255) : bodyD Tryd.prog (env lawT (lpOf [(122, inI.g)]) 0) Tryd.f7 [.agg [iv x, iv y, iv f], .sl t (knd .u8 z) 1 n] [] (fun d _ => isD (.v (.bool true)) d) = some () := by
  refine (in_tree x y f t z n _).trans ?_
  by_cases hok : At.Ok ⟨x, y, f⟩
  · refine cF (chk_eq hok) (cS (fun _ => isD_of rfl) fun hn0 => dS (fun _ => isD_of rfl) fun hn => ?_)
    have hn0 : n ≠ 0 := fun e => by subst e; simp at hn0
    have hn : n ≤ 40 := by omega
    refine hT ⟨⟨Nat.zero_le _, by show n ≤ 100; omega, Nat.le_refl _, Nat.le_refl _⟩, [1, 2], .of (im := [some 0, some 1, some 2]) (.cons (.po rfl) (.cons (.os rfl) (.cons (.os rfl) (.cons (.sl _ _ _ _) (.cons (.v _) (.cons (.v _) .nil)))))) rfl ⟨⟨0, _, rfl, rfl, subA⟩, ⟨1, _, rfl, rfl, subL_nil⟩, ⟨2, _, rfl, rfl, subL_nil⟩, trivial⟩ rfl (by decide)⟩ ?_
    obtain ⟨q1, q2, q3, q4⟩ := indR_ok (z := z) n 0 [] [] (fun j hj => hz j (by omega)) (fun v hv => nomatch hv) (fun v hv => nomatch hv)
    have er : RX.r ⟨⟨x, y, f⟩, t, z, n, 0, [], []⟩ = indR z n 0 [] [] := rfl
    rw [er]
    generalize (indR z n 0 [] []).1 = L at *
    generalize (indR z n 0 [] []).2 = M at *
    simp only [List.length_nil, Nat.zero_add] at q3 q4
    have hL : applyF ⟨x, y, f⟩ (lw L) L.length = (run L ⟨x, y, f⟩).2 := by
      rw [apply_run, nums_of (fun v hv => by have := q1 v hv; omega) (fun e => by rw [e] at q3; exact hn0 q3.symm)]
    obtain ⟨l1, l2⟩ := run_low L ⟨x, y, f⟩ q1
    refine dT (by simp [lL, lB, DC.n]) (hT intsOk_iv (hT (by omega) ?_))
    rw [zadd, hL, l1, l2]
    refine cF (by simp) (cF (by simp) (cS (fun _ => isD_of rfl) fun hM0 => ?_))
    have hM0 : M ≠ [] := fun e => by subst e; simp at hM0
    refine dT (by simp [lL, lB, DC.n]) (hT intsOk_iv (hT (by omega) (cT ?_ (isD_of rfl))))
    rw [zadd, apply_run, nums_of (fun v hv => by have := q2 v hv; omega) hM0, run_high M _ q2 hok.2.2]
    simp
  · exact cT (chk_ne hok) (isD_of rfl)
/-- A list of bytes, as a callee sees it. -/
def bytesOk (g : Nat → Nat → DV) (n : Nat) : Prop := ∀ i, i < n → g i 0 = kv .u8 (num (g i 0))
noncomputable def bytesK (d : DV) (k : (Nat → Int) → Nat → Option Unit) : Option Unit :=
  match d with
  | .sl _ g 1 n => bif holds (bytesOk g n) then k (fun i => num (g i 0)) n else none
  | .v (.slice none 0 0) => k (fun _ => 0) 0
  | _ => none
theorem bytesK_some {d : DV} {k : (Nat → Int) → Nat → Option Unit} (h : bytesK d k = some ()) : ∃ t z n, k z n = some () ∧ ∀ C μ v, DR C μ d v → DR C μ (.sl t (knd .u8 z) 1 n) v := by
  unfold bytesK at h
  split at h <;> first | (cases h; done) | skip
  · rename_i t g n
    obtain ⟨h1, h2⟩ := bif_none h
    have h1 := holds_eq.1 h1
    refine ⟨t, _, n, h2, fun C μ v hv => ?_⟩
    rcases hv.sl_inv with ⟨a, cap, w, rfl, hc, hk, q1, q2⟩ | ⟨rfl, rfl⟩
    · refine .sl t _ 1 n a cap w hc hk q1 fun i f hi hf => ?_
      obtain rfl : f = 0 := by omega
      have := q2 i 0 hi hf
      rw [h1 i hi] at this
      exact this
    · exact .slnil t _ 1
  · refine ⟨true, _, 0, h, fun C μ v hv => ?_⟩
    cases hv
    exact .slnil true _ 1
noncomputable def lawC4 : ConF := fun args k => match args with
  | [.agg [.v (.int .i64 _), .v (.int .i64 _), .v (.int .i64 _)], d] => bytesK d fun z n => bif holds (∀ j, j < n → 0 ≤ z j ∧ z j ≤ 255) then k fun _ => (.v (.bool true), []) else none
  | _ => none
theorem lawC4_ask {x y f : Int} {t : Bool} {z : Nat → Int} {n : Nat} {k : (Nat → DV × List (Option DBlk)) → Option Unit} (hz : ∀ j, j < n → 0 ≤ z j ∧ z j ≤ 255) (hk : k (fun _ => (.v (.bool true), [])) = some ()) :
    lawC4 [.agg [iv x, iv y, iv f], .sl t (knd .u8 z) 1 n] k = some () := by
  show bytesK (.sl t (knd .u8 z) 1 n) (fun z n => bif holds (∀ j, j < n → 0 ≤ z j ∧ z j ≤ 255) then k fun _ => (.v (.bool true), []) else none) = some ()
  have h : bytesOk (knd .u8 z) n := fun _ _ => rfl
  exact hT h (hT hz hk)
theorem ind_ok {st : AE.Stat} (hst : CodesIn st) : ConOk Tryd.prog st 7 lawC4 := by
  refine con_flat (mg := []) (l := lawT) (lp := lpOf [(122, inI.g)]) (n := 0) (glOk hst) (lawT_ok hst) Tryd.func7 (by kernel_rfl) (by kernel_rfl) (lp_one (by kernel_rfl) (in_ls hst)) fun args k hk => ?_
  unfold lawC4 at hk
  split at hk <;> first | (cases hk; done) | skip
  rename_i x y f d
  obtain ⟨t, z, n, hk, hc⟩ := bytesK_some hk
  obtain ⟨hn, hk⟩ := bif_none hk
  exact ⟨[.agg [iv x, iv y, iv f], .sl t (knd .u8 z) 1 n], _, .self (.cons hc .nil), flR_clo rfl, hk, in_true x y f t z n (holds_eq.1 hn)⟩
end Go.Proofs.YtolmaphpfhplpaaDoor
