/-
  Contracts of code, with, one, Default of the reference of attr.
  Condition: the package-level table 'codes' holds its eight numbers (CodesIn).
-/
import Derived.Test.YtolmaphpfhplpaaDoorFlag
namespace Go.Proofs.YtolmaphpfhplpaaDoor
open Go Go.AE Go.DE Go.RowKit

/-- Default -/
def dfl : At := ⟨-1, -1, 0⟩
noncomputable def dflC : ConF := fun args k => match args with
  | [] => k fun _ => (.agg [iv (-1), iv (-1), iv 0], [])
  | _ => none
theorem dfl21 {st : AE.Stat} (hst : CodesIn st) : ConOk Tryd.prog st 21 dflC := by
  refine con_flat (mg := []) (l := []) (lp := noLp) (n := 0) (glOk hst) (fun _ h => nomatch h) Tryd.func21 (by kernel_rfl) (by kernel_rfl) (fun _ _ _ h => nomatch h) fun args k hk => ?_
  unfold dflC at hk
  split at hk <;> first | (cases hk; done) | skip
  exact ⟨[], _, .nil, flR_clo rfl, hk, (show bodyD Tryd.prog (env [] noLp 0) Tryd.f21 [] [] (fun d _ => isD (.agg [iv (-1), iv (-1), iv 0]) d) = isD (.agg [iv (-1), iv (-1), iv 0]) (.agg [iv (-1), iv (-1), iv 0]) by kernel_rfl).trans (isD_of rfl)⟩
theorem dfl22 {st : AE.Stat} (hst : CodesIn st) : ConOk Tryd.prog st 22 dflC := by
  refine con_flat (mg := []) (l := []) (lp := noLp) (n := 0) (glOk hst) (fun _ h => nomatch h) Tryd.func22 (by kernel_rfl) (by kernel_rfl) (fun _ _ _ h => nomatch h) fun args k hk => ?_
  unfold dflC at hk
  split at hk <;> first | (cases hk; done) | skip
  exact ⟨[], _, .nil, flR_clo rfl, hk, (show bodyD Tryd.prog (env [] noLp 0) Tryd.f22 [] [] (fun d _ => isD (.agg [iv (-1), iv (-1), iv 0]) d) = isD (.agg [iv (-1), iv (-1), iv 0]) (.agg [iv (-1), iv (-1), iv 0]) by kernel_rfl).trans (isD_of rfl)⟩

/-- code -/
def codeZ (i : Int) : Int := if i < 5 then i + 1 else i + 2
noncomputable def codeC : ConF := fun args k => match args with
  | [.v (.int .i64 i)] => bif holds (0 ≤ i ∧ i < 8) then k (fun _ => (iv (codeZ i), [])) else none
  | _ => none
theorem code_tree (i : Int) (k : DV → Option Unit) : bodyD Tryd.prog (env [] noLp 0) Tryd.f31 [iv i] [] (fun d _ => k d) = bif decide (i < 5) then k (iv (IntKind.i64.wrap (i + 1))) else k (iv (IntKind.i64.wrap (i + 2))) := by
  kernel_rfl
theorem code_ok {st : AE.Stat} (hst : CodesIn st) : ConOk Tryd.prog st 31 codeC := by
  refine con_flat (mg := []) (l := []) (lp := noLp) (n := 0) (glOk hst) (fun _ h => nomatch h) Tryd.func31 (by kernel_rfl) (by kernel_rfl) (fun _ _ _ h => nomatch h) fun args k hk => ?_
  unfold codeC at hk
  split at hk <;> first | (cases hk; done) | skip
  rename_i i
  obtain ⟨h0, hk⟩ := bif_none hk
  have h0 : 0 ≤ i ∧ i < 8 := holds_eq.1 h0
  refine ⟨[iv i], _, .self .nil, flR_clo rfl, hk, (code_tree i _).trans ?_⟩
  refine dS (fun h => isD_of ?_) fun h => isD_of ?_
  · rw [W_in (by omega) (by omega), codeZ, if_pos h]
  · rw [W_in (by omega) (by omega), codeZ, if_neg h]

/-- with -/
def wF (f : Int) (i : Nat) (s : Bool) : Int :=
  if s = true then (if Int.tmod (IntKind.i64.wrap (Int.tdiv f (p2 i))) 2 = 1 then f else IntKind.i64.wrap (f + p2 i))
  else (if Int.tmod (IntKind.i64.wrap (Int.tdiv f (p2 i))) 2 = 1 then IntKind.i64.wrap (f - p2 i) else f)
noncomputable def withC : ConF := fun args k => match args with
  | [.v (.int .i64 f), .v (.int .i64 i), .v (.bool s)] => bif holds (0 ≤ i ∧ i < 8) then k (fun _ => (iv (wF f i.toNat s), [])) else none
  | _ => none
theorem with_tree (f : Int) (s : Bool) (k : DV → Option Unit) (i : Nat) (hi : i < 8) : bodyD Tryd.prog (env [] noLp 10) Tryd.f33 [iv f, iv i, .v (.bool s)] [] (fun d _ => k d) =
    bif s then (bif !(Int.tmod (IntKind.i64.wrap (Int.tdiv f (p2 i))) 2 == 1) then k (iv (IntKind.i64.wrap (f + p2 i)))
      else bif !s then (bif Int.tmod (IntKind.i64.wrap (Int.tdiv f (p2 i))) 2 == 1 then k (iv (IntKind.i64.wrap (f - p2 i))) else k (iv f)) else k (iv f))
    else bif !s then (bif Int.tmod (IntKind.i64.wrap (Int.tdiv f (p2 i))) 2 == 1 then k (iv (IntKind.i64.wrap (f - p2 i))) else k (iv f)) else k (iv f) := by
  have h : i = 0 ∨ i = 1 ∨ i = 2 ∨ i = 3 ∨ i = 4 ∨ i = 5 ∨ i = 6 ∨ i = 7 := by omega
  rcases h with rfl | rfl | rfl | rfl | rfl | rfl | rfl | rfl <;> (show _ = _; kernel_rfl)
theorem with_ok {st : AE.Stat} (hst : CodesIn st) : ConOk Tryd.prog st 33 withC := by
  refine con_flat (mg := []) (l := []) (lp := noLp) (n := 10) (glOk hst) (fun _ h => nomatch h) Tryd.func33 (by kernel_rfl) (by kernel_rfl) (fun _ _ _ h => nomatch h) fun args k hk => ?_
  unfold withC at hk
  split at hk <;> first | (cases hk; done) | skip
  rename_i f i s
  obtain ⟨h0, hk⟩ := bif_none hk
  have h0 : 0 ≤ i ∧ i < 8 := holds_eq.1 h0
  obtain ⟨j, rfl⟩ : ∃ j : Nat, i = j := ⟨i.toNat, by omega⟩
  refine ⟨[iv f, iv j, .v (.bool s)], _, .self (.self (.self .nil)), flR_clo rfl, hk, (with_tree f s _ j (by omega)).trans ?_⟩
  have hr : ∀ {x : Int}, wF f j s = x → isD (iv (wF f (j : Int).toNat s)) (iv x) = some () := fun h => isD_of (by rw [← h]; rfl)
  unfold wF at hr
  cases s
  · refine cF rfl (cT rfl (cS (fun h => ?_) fun h => ?_))
    · have h : Int.tmod (IntKind.i64.wrap (Int.tdiv f (p2 j))) 2 = 1 := by simpa using h
      refine hr ?_
      rw [if_neg (by simp), if_pos h]
    · have h : ¬ Int.tmod (IntKind.i64.wrap (Int.tdiv f (p2 j))) 2 = 1 := by simpa using h
      refine hr ?_
      rw [if_neg (by simp), if_neg h]
  · refine cT rfl (cS (fun h => ?_) fun h => ?_)
    · have h : ¬ Int.tmod (IntKind.i64.wrap (Int.tdiv f (p2 j))) 2 = 1 := by simpa using h
      refine hr ?_
      rw [if_pos rfl, if_neg h]
    · have h : Int.tmod (IntKind.i64.wrap (Int.tdiv f (p2 j))) 2 = 1 := by simpa using h
      refine cF rfl (hr ?_)
      rw [if_pos rfl, if_pos h]

/-- one -/
def stepO (m : Int) (i : Nat) (f : Int) : Int :=
  if m = 20 + codeZ i ∧ 1 < i ∨ m = 22 ∧ i < 2 then wF (if m = codeZ i then wF f i true else f) i false else if m = codeZ i then wF f i true else f
def oneR (m : Int) : Nat → Nat → Int → Int
  | 0, _, f => f
  | n + 1, i, f => oneR m n (i + 1) (stepO m i f)
structure OX where
  a : At
  m : Int
  i : Nat
  hi : i ≤ 8
def OX.f (x : OX) : Int := oneR x.m (8 - x.i) x.i x.a.f
abbrev row3 (a b c : DV) : DBlk := ⟨3, .lst [[a, b, c]]⟩
abbrev row0 : DBlk := row3 .any .any .any
abbrev At.b (a : At) : DBlk := row3 (iv a.x) (iv a.y) (iv a.f)
def oneI : LInv OX where
  m := 2
  n := 87
  ps := [1, 2, 4, 5]
  sd x := [iv x.m, .po 0 0 0, .po 1 0 0, iv x.i]
  sh x := [some x.a.b, some row0]
  meas x := 8 - x.i
  e _ := .exit 0
  qs := [1, 2, 4]
  od x := [iv x.m, .po 0 0 0, .po 1 0 0]
  oh x := [some (row3 (iv x.a.x) (iv x.a.y) (iv x.f)), some row0]
  guess ds σ := match ds, σ with
    | [.v (.int _ m), _, _, _], some ⟨_, .lst [[.v (.int _ x), .v (.int _ y), .v (.int _ f)]]⟩ :: _ => some ⟨⟨x, y, f⟩, m, 0, Nat.zero_le _⟩
    | _, _ => none
  cps x k := k (.exit 0) [iv x.m, .po 0 0 0, .po 1 0 0] [some (row3 (iv x.a.x) (iv x.a.y) (iv x.f)), some row0]

theorem subC3 {r : Nat → Option Nat} {c : DC} {x y z : DV} (hn : 1 ≤ c.n) (h0 : Sub r x (c.get 0 0)) (h1 : Sub r y (c.get 0 1)) (h2 : Sub r z (c.get 0 2)) : SubC r (row3 x y z) ⟨3, c⟩ := by
  refine ⟨rfl, hn, trivial, fun i f hi hf => ?_⟩
  obtain rfl : i = 0 := by have : i < 1 := hi; omega
  have hf : f < 3 := hf
  have h : f = 0 ∨ f = 1 ∨ f = 2 := by omega
  rcases h with rfl | rfl | rfl
  · exact h0
  · exact h1
  · exact h2
theorem subRow {r : Nat → Option Nat} {c : DC} (hn : 1 ≤ c.n) : SubC r row0 ⟨3, c⟩ := subC3 hn (.any _) (.any _) (.any _)
theorem wkA {ds ds2 : List DV} {c0 c1 : DC} {b0 b1 : DBlk} (tm : SubL (ren 2 []) ds2 ds) (h0 : SubC (ren 2 []) b0 ⟨3, c0⟩) (h1 : SubC (ren 2 []) b1 ⟨3, c1⟩) : WkP 2 [] ds [some ⟨3, c0⟩, some ⟨3, c1⟩] ds2 [some b0, some b1] :=
  .of (im := [some 0, some 1]) tm rfl ⟨⟨0, _, rfl, rfl, h0⟩, ⟨1, _, rfl, rfl, h1⟩, trivial⟩ rfl (by decide)
theorem tm4 {m j : Int} {j' : Int} (h : j' = j) : SubL (ren 2 []) [iv m, .po 0 0 0, .po 1 0 0, iv j'] [iv m, .po 0 0 0, .po 1 0 0, iv j] := by
  subst h
  exact .cons (.v _) (.cons (.po rfl) (.cons (.po rfl) (.cons (.v _) .nil)))
theorem tm3 {m : Int} : SubL (ren 2 []) [iv m, .po 0 0 0, .po 1 0 0] [iv m, .po 0 0 0, .po 1 0 0] := .cons (.v _) (.cons (.po rfl) (.cons (.po rfl) .nil))
noncomputable abbrev oneL : List (FuncId × ConF) := [(31, codeC), (33, withC)]
theorem one_loop (x y f m : Int) (i : Nat) (K : Ex → Nat → List DV → List DV → DHeap → Option Unit) : execD Tryd.prog (env oneL noLp 0) (loopAt Tryd.f28 58) 500 (temps 87 [1,2,4,5] [iv m, .po 0 0 0, .po 1 0 0, iv i]) [some (row3 (iv x) (iv y) (iv f)), some row0] (fun e τ σ => K e τ.length (pick [1,2,4,5] τ) (pick [1,2,4] τ) σ) =
    bif decide ((↑i : Int) < 8) then
      bif holds (0 ≤ (↑i : Int) ∧ (↑i : Int) < 8) then
        bif m == codeZ (↑i : Int) then
          bif holds (0 ≤ (↑i : Int) ∧ (↑i : Int) < 8) then
            bif holds (0 ≤ (↑i : Int) ∧ (↑i : Int) < 8) then
              bif m == IntKind.wrap IntKind.i64 (20 + codeZ (↑i : Int)) then
                bif decide ((↑i : Int) > 1) then
                  bif holds (0 ≤ (↑i : Int) ∧ (↑i : Int) < 8) then
                    K Ex.normal 87
                      [DV.v (Value.int IntKind.i64 m), DV.po 0 0 0, DV.po 1 0 0,
                        DV.v (Value.int IntKind.i64 (IntKind.wrap IntKind.i64 ((↑i : Int) + 1)))]
                      [DV.v (Value.int IntKind.i64 m), DV.po 0 0 0, DV.po 1 0 0]
                      [some
                          { k := 3,
                            c :=
                              DC.upd
                                (DC.upd
                                  (DC.lst
                                    [[DV.v (Value.int IntKind.i64 x), DV.v (Value.int IntKind.i64 y),
                                        DV.v (Value.int IntKind.i64 f)]])
                                  0 2 (DV.v (Value.int IntKind.i64 (wF f (Int.toNat (↑i : Int)) true))))
                                0 2
                                (DV.v
                                  (Value.int IntKind.i64
                                    (wF (wF f (Int.toNat (↑i : Int)) true) (Int.toNat (↑i : Int)) false))) },
                        some { k := 3, c := DC.lst [[DV.any, DV.any, DV.any]] }]
                  else none
                else
                  bif m == 22 then
                    bif decide ((↑i : Int) < 2) then
                      bif holds (0 ≤ (↑i : Int) ∧ (↑i : Int) < 8) then
                        K Ex.normal 87
                          [DV.v (Value.int IntKind.i64 m), DV.po 0 0 0, DV.po 1 0 0,
                            DV.v (Value.int IntKind.i64 (IntKind.wrap IntKind.i64 ((↑i : Int) + 1)))]
                          [DV.v (Value.int IntKind.i64 m), DV.po 0 0 0, DV.po 1 0 0]
                          [some
                              { k := 3,
                                c :=
                                  DC.upd
                                    (DC.upd
                                      (DC.lst
                                        [[DV.v (Value.int IntKind.i64 x), DV.v (Value.int IntKind.i64 y),
                                            DV.v (Value.int IntKind.i64 f)]])
                                      0 2 (DV.v (Value.int IntKind.i64 (wF f (Int.toNat (↑i : Int)) true))))
                                    0 2
                                    (DV.v
                                      (Value.int IntKind.i64
                                        (wF (wF f (Int.toNat (↑i : Int)) true) (Int.toNat (↑i : Int)) false))) },
                            some { k := 3, c := DC.lst [[DV.any, DV.any, DV.any]] }]
                      else none
                    else
                      K Ex.normal 87
                        [DV.v (Value.int IntKind.i64 m), DV.po 0 0 0, DV.po 1 0 0,
                          DV.v (Value.int IntKind.i64 (IntKind.wrap IntKind.i64 ((↑i : Int) + 1)))]
                        [DV.v (Value.int IntKind.i64 m), DV.po 0 0 0, DV.po 1 0 0]
                        [some
                            { k := 3,
                              c :=
                                DC.upd
                                  (DC.lst
                                    [[DV.v (Value.int IntKind.i64 x), DV.v (Value.int IntKind.i64 y),
                                        DV.v (Value.int IntKind.i64 f)]])
                                  0 2 (DV.v (Value.int IntKind.i64 (wF f (Int.toNat (↑i : Int)) true))) },
                          some { k := 3, c := DC.lst [[DV.any, DV.any, DV.any]] }]
                  else
                    K Ex.normal 87
                      [DV.v (Value.int IntKind.i64 m), DV.po 0 0 0, DV.po 1 0 0,
                        DV.v (Value.int IntKind.i64 (IntKind.wrap IntKind.i64 ((↑i : Int) + 1)))]
                      [DV.v (Value.int IntKind.i64 m), DV.po 0 0 0, DV.po 1 0 0]
                      [some
                          { k := 3,
                            c :=
                              DC.upd
                                (DC.lst
                                  [[DV.v (Value.int IntKind.i64 x), DV.v (Value.int IntKind.i64 y),
                                      DV.v (Value.int IntKind.i64 f)]])
                                0 2 (DV.v (Value.int IntKind.i64 (wF f (Int.toNat (↑i : Int)) true))) },
                        some { k := 3, c := DC.lst [[DV.any, DV.any, DV.any]] }]
              else
                bif m == 22 then
                  bif decide ((↑i : Int) < 2) then
                    bif holds (0 ≤ (↑i : Int) ∧ (↑i : Int) < 8) then
                      K Ex.normal 87
                        [DV.v (Value.int IntKind.i64 m), DV.po 0 0 0, DV.po 1 0 0,
                          DV.v (Value.int IntKind.i64 (IntKind.wrap IntKind.i64 ((↑i : Int) + 1)))]
                        [DV.v (Value.int IntKind.i64 m), DV.po 0 0 0, DV.po 1 0 0]
                        [some
                            { k := 3,
                              c :=
                                DC.upd
                                  (DC.upd
                                    (DC.lst
                                      [[DV.v (Value.int IntKind.i64 x), DV.v (Value.int IntKind.i64 y),
                                          DV.v (Value.int IntKind.i64 f)]])
                                    0 2 (DV.v (Value.int IntKind.i64 (wF f (Int.toNat (↑i : Int)) true))))
                                  0 2
                                  (DV.v
                                    (Value.int IntKind.i64
                                      (wF (wF f (Int.toNat (↑i : Int)) true) (Int.toNat (↑i : Int)) false))) },
                          some { k := 3, c := DC.lst [[DV.any, DV.any, DV.any]] }]
                    else none
                  else
                    K Ex.normal 87
                      [DV.v (Value.int IntKind.i64 m), DV.po 0 0 0, DV.po 1 0 0,
                        DV.v (Value.int IntKind.i64 (IntKind.wrap IntKind.i64 ((↑i : Int) + 1)))]
                      [DV.v (Value.int IntKind.i64 m), DV.po 0 0 0, DV.po 1 0 0]
                      [some
                          { k := 3,
                            c :=
                              DC.upd
                                (DC.lst
                                  [[DV.v (Value.int IntKind.i64 x), DV.v (Value.int IntKind.i64 y),
                                      DV.v (Value.int IntKind.i64 f)]])
                                0 2 (DV.v (Value.int IntKind.i64 (wF f (Int.toNat (↑i : Int)) true))) },
                        some { k := 3, c := DC.lst [[DV.any, DV.any, DV.any]] }]
                else
                  K Ex.normal 87
                    [DV.v (Value.int IntKind.i64 m), DV.po 0 0 0, DV.po 1 0 0,
                      DV.v (Value.int IntKind.i64 (IntKind.wrap IntKind.i64 ((↑i : Int) + 1)))]
                    [DV.v (Value.int IntKind.i64 m), DV.po 0 0 0, DV.po 1 0 0]
                    [some
                        { k := 3,
                          c :=
                            DC.upd
                              (DC.lst
                                [[DV.v (Value.int IntKind.i64 x), DV.v (Value.int IntKind.i64 y),
                                    DV.v (Value.int IntKind.i64 f)]])
                              0 2 (DV.v (Value.int IntKind.i64 (wF f (Int.toNat (↑i : Int)) true))) },
                      some { k := 3, c := DC.lst [[DV.any, DV.any, DV.any]] }]
            else none
          else none
        else
          bif holds (0 ≤ (↑i : Int) ∧ (↑i : Int) < 8) then
            bif m == IntKind.wrap IntKind.i64 (20 + codeZ (↑i : Int)) then
              bif decide ((↑i : Int) > 1) then
                bif holds (0 ≤ (↑i : Int) ∧ (↑i : Int) < 8) then
                  K Ex.normal 87
                    [DV.v (Value.int IntKind.i64 m), DV.po 0 0 0, DV.po 1 0 0,
                      DV.v (Value.int IntKind.i64 (IntKind.wrap IntKind.i64 ((↑i : Int) + 1)))]
                    [DV.v (Value.int IntKind.i64 m), DV.po 0 0 0, DV.po 1 0 0]
                    [some
                        { k := 3,
                          c :=
                            DC.upd
                              (DC.lst
                                [[DV.v (Value.int IntKind.i64 x), DV.v (Value.int IntKind.i64 y),
                                    DV.v (Value.int IntKind.i64 f)]])
                              0 2 (DV.v (Value.int IntKind.i64 (wF f (Int.toNat (↑i : Int)) false))) },
                      some { k := 3, c := DC.lst [[DV.any, DV.any, DV.any]] }]
                else none
              else
                bif m == 22 then
                  bif decide ((↑i : Int) < 2) then
                    bif holds (0 ≤ (↑i : Int) ∧ (↑i : Int) < 8) then
                      K Ex.normal 87
                        [DV.v (Value.int IntKind.i64 m), DV.po 0 0 0, DV.po 1 0 0,
                          DV.v (Value.int IntKind.i64 (IntKind.wrap IntKind.i64 ((↑i : Int) + 1)))]
                        [DV.v (Value.int IntKind.i64 m), DV.po 0 0 0, DV.po 1 0 0]
                        [some
                            { k := 3,
                              c :=
                                DC.upd
                                  (DC.lst
                                    [[DV.v (Value.int IntKind.i64 x), DV.v (Value.int IntKind.i64 y),
                                        DV.v (Value.int IntKind.i64 f)]])
                                  0 2 (DV.v (Value.int IntKind.i64 (wF f (Int.toNat (↑i : Int)) false))) },
                          some { k := 3, c := DC.lst [[DV.any, DV.any, DV.any]] }]
                    else none
                  else
                    K Ex.normal 87
                      [DV.v (Value.int IntKind.i64 m), DV.po 0 0 0, DV.po 1 0 0,
                        DV.v (Value.int IntKind.i64 (IntKind.wrap IntKind.i64 ((↑i : Int) + 1)))]
                      [DV.v (Value.int IntKind.i64 m), DV.po 0 0 0, DV.po 1 0 0]
                      [some
                          { k := 3,
                            c :=
                              DC.lst
                                [[DV.v (Value.int IntKind.i64 x), DV.v (Value.int IntKind.i64 y),
                                    DV.v (Value.int IntKind.i64 f)]] },
                        some { k := 3, c := DC.lst [[DV.any, DV.any, DV.any]] }]
                else
                  K Ex.normal 87
                    [DV.v (Value.int IntKind.i64 m), DV.po 0 0 0, DV.po 1 0 0,
                      DV.v (Value.int IntKind.i64 (IntKind.wrap IntKind.i64 ((↑i : Int) + 1)))]
                    [DV.v (Value.int IntKind.i64 m), DV.po 0 0 0, DV.po 1 0 0]
                    [some
                        { k := 3,
                          c :=
                            DC.lst
                              [[DV.v (Value.int IntKind.i64 x), DV.v (Value.int IntKind.i64 y),
                                  DV.v (Value.int IntKind.i64 f)]] },
                      some { k := 3, c := DC.lst [[DV.any, DV.any, DV.any]] }]
            else
              bif m == 22 then
                bif decide ((↑i : Int) < 2) then
                  bif holds (0 ≤ (↑i : Int) ∧ (↑i : Int) < 8) then
                    K Ex.normal 87
                      [DV.v (Value.int IntKind.i64 m), DV.po 0 0 0, DV.po 1 0 0,
                        DV.v (Value.int IntKind.i64 (IntKind.wrap IntKind.i64 ((↑i : Int) + 1)))]
                      [DV.v (Value.int IntKind.i64 m), DV.po 0 0 0, DV.po 1 0 0]
                      [some
                          { k := 3,
                            c :=
                              DC.upd
                                (DC.lst
                                  [[DV.v (Value.int IntKind.i64 x), DV.v (Value.int IntKind.i64 y),
                                      DV.v (Value.int IntKind.i64 f)]])
                                0 2 (DV.v (Value.int IntKind.i64 (wF f (Int.toNat (↑i : Int)) false))) },
                        some { k := 3, c := DC.lst [[DV.any, DV.any, DV.any]] }]
                  else none
                else
                  K Ex.normal 87
                    [DV.v (Value.int IntKind.i64 m), DV.po 0 0 0, DV.po 1 0 0,
                      DV.v (Value.int IntKind.i64 (IntKind.wrap IntKind.i64 ((↑i : Int) + 1)))]
                    [DV.v (Value.int IntKind.i64 m), DV.po 0 0 0, DV.po 1 0 0]
                    [some
                        { k := 3,
                          c :=
                            DC.lst
                              [[DV.v (Value.int IntKind.i64 x), DV.v (Value.int IntKind.i64 y),
                                  DV.v (Value.int IntKind.i64 f)]] },
                      some { k := 3, c := DC.lst [[DV.any, DV.any, DV.any]] }]
              else
                K Ex.normal 87
                  [DV.v (Value.int IntKind.i64 m), DV.po 0 0 0, DV.po 1 0 0,
                    DV.v (Value.int IntKind.i64 (IntKind.wrap IntKind.i64 ((↑i : Int) + 1)))]
                  [DV.v (Value.int IntKind.i64 m), DV.po 0 0 0, DV.po 1 0 0]
                  [some
                      { k := 3,
                        c :=
                          DC.lst
                            [[DV.v (Value.int IntKind.i64 x), DV.v (Value.int IntKind.i64 y),
                                DV.v (Value.int IntKind.i64 f)]] },
                    some { k := 3, c := DC.lst [[DV.any, DV.any, DV.any]] }]
          else none
      else none
    else
      K (Ex.exit 0) 87 [DV.v (Value.int IntKind.i64 m), DV.po 0 0 0, DV.po 1 0 0, DV.v (Value.int IntKind.i64 (↑i : Int))]
        [DV.v (Value.int IntKind.i64 m), DV.po 0 0 0, DV.po 1 0 0]
        [some
            { k := 3,
              c :=
                DC.lst [[DV.v (Value.int IntKind.i64 x), DV.v (Value.int IntKind.i64 y), DV.v (Value.int IntKind.i64 f)]] },
          some { k := 3, c := DC.lst [[DV.any, DV.any, DV.any]] }] := by
  kernel_rfl
theorem one_ls {st : AE.Stat} (hst : CodesIn st) : LoopS Tryd.prog st gl0 (.loop (loopAt Tryd.f28 58)) oneI.g := by
  have hl : ∀ x ∈ oneL, ConOk Tryd.prog st x.1 x.2 := by
    intro x hx
    simp only [oneL, List.mem_cons, List.not_mem_nil, or_false] at hx
    rcases hx with rfl | rfl
    · exact code_ok hst
    · exact with_ok hst
  refine oneI.ok (E := env oneL noLp 0) (p := 500) (tblD_env hl) (glOk hst).1 (fun _ _ _ h => nomatch h) (fun x k h => h) fun x _ => ?_
  obtain ⟨⟨x, y, f⟩, m, i, hi⟩ := x
  refine (one_loop x y f m i _).trans ?_
  refine dS (fun h => ?_) fun h => ?_
  · obtain ⟨n, hn⟩ : ∃ n, 8 - i = n + 1 := ⟨7 - i, by omega⟩
    have hcz : 0 ≤ codeZ i ∧ codeZ i < 10 := by unfold codeZ; split <;> omega
    have hW : IntKind.i64.wrap (20 + codeZ i) = 20 + codeZ i := W_in (by omega) (by omega)
    have hWi : IntKind.i64.wrap ((i : Int) + 1) = ((i + 1 : Nat) : Int) := by rw [W_in (by omega) (by omega)]; omega
    have goOn : ∀ (c0 c1 : DC) (f' : Int), stepO m i f = f' → 1 ≤ c0.n → 1 ≤ c1.n → c0.get 0 0 = iv x → c0.get 0 1 = iv y → c0.get 0 2 = iv f' →
        oneI.ask ⟨⟨x, y, f⟩, m, i, hi⟩ .normal 87 [iv m, .po 0 0 0, .po 1 0 0, iv (IntKind.i64.wrap ((i : Int) + 1))] [iv m, .po 0 0 0, .po 1 0 0] [some ⟨3, c0⟩, some ⟨3, c1⟩] = some () := by
      intro c0 c1 f' hf' n0 n1 e0 e1 e2
      refine oneI.ask_of ⟨rfl, ⟨⟨x, y, f'⟩, m, i + 1, by omega⟩, ⟨rfl, rfl, ?_⟩, ?_, [], wkA (tm4 hWi.symm) (subC3 n0 (by rw [e0]; exact .v _) (by rw [e1]; exact .v _) (by rw [e2]; exact .v _)) (subRow n1)⟩
      · simp only [oneI, OX.f, hn, oneR, hf', show 8 - (i + 1) = n by omega, and_true]
      · simp only [oneI]; omega
    refine hT ⟨by omega, by omega⟩ ?_
    have hs : ∀ {a b : Prop} [Decidable a] [Decidable b], (a ↔ m = codeZ i) → (b ↔ (m = 20 + codeZ i ∧ 1 < i ∨ m = 22 ∧ i < 2)) → stepO m i f = if b then wF (if a then wF f i true else f) i false else if a then wF f i true else f := by
      intro a b _ _ ha hb
      unfold stepO
      by_cases h1 : a <;> by_cases h2 : b <;> simp only [h1, h2, ← ha, ← hb, if_true, if_false]
    refine cS (fun h1 => ?_) fun h1 => ?_
    all_goals (repeat' (first | refine goOn _ _ _ ?_ (Nat.le_refl _) (Nat.le_refl _) rfl rfl rfl | refine hT ⟨by omega, by omega⟩ ?_ | refine cS (fun h => ?_) (fun h => ?_)))
    all_goals (simp only [hW, decide_eq_true_eq, decide_eq_false_iff_not, beq_iff_eq, beq_eq_false_iff_ne, ne_eq] at *)
    all_goals (unfold stepO)
    all_goals ((repeat' split) <;> first | rfl | (exfalso; omega))
  · obtain rfl : i = 8 := by omega
    exact oneI.ask_of ⟨rfl, rfl, [], wkA tm3 (subC3 (Nat.le_refl _) (.v _) (.v _) (.v _)) (subRow (Nat.le_refl _))⟩

/-- The tests behind the loop. -/
def ifI (g : Int → At → At) : LInv (At × Int) where
  m := 2
  n := 87
  ps := [1, 2, 4]
  sd x := [iv x.2, .po 0 0 0, .po 1 0 0]
  sh x := [some x.1.b, some row0]
  meas _ := 0
  e _ := .normal
  qs := [1, 2, 4]
  od x := [iv x.2, .po 0 0 0, .po 1 0 0]
  oh x := [some (row3 (iv (g x.2 x.1).x) (iv (g x.2 x.1).y) (iv (g x.2 x.1).f)), some row0]
  guess ds σ := match ds, σ with
    | [.v (.int _ m), _, _], some ⟨_, .lst [[.v (.int _ x), .v (.int _ y), .v (.int _ f)]]⟩ :: _ => some (⟨x, y, f⟩, m)
    | _, _ => none
  cps x k := k .normal [iv x.2, .po 0 0 0, .po 1 0 0] [some (row3 (iv (g x.2 x.1).x) (iv (g x.2 x.1).y) (iv (g x.2 x.1).f)), some row0]
def g30 (m : Int) (a : At) : At := if 30 ≤ m ∧ m ≤ 37 then { a with x := m - 30 } else a
theorem if30_tree (x y f m : Int) (K : Ex → Nat → List DV → DHeap → Option Unit) : execD Tryd.prog (env [] noLp 0) (pieceOf Tryd.f28 30) 500 (temps 87 [1, 2, 4] [iv m, .po 0 0 0, .po 1 0 0]) [some (row3 (iv x) (iv y) (iv f)), some row0] (fun e τ σ => K e τ.length (pick [1, 2, 4] τ) σ) =
    bif decide (m ≥ 30) then
      bif decide (m ≤ 37) then
        K Ex.normal 87 [DV.v (Value.int IntKind.i64 m), DV.po 0 0 0, DV.po 1 0 0]
          [some
              { k := 3,
                c :=
                  DC.upd
                    (DC.lst
                      [[DV.v (Value.int IntKind.i64 x), DV.v (Value.int IntKind.i64 y), DV.v (Value.int IntKind.i64 f)]])
                    0 0 (DV.v (Value.int IntKind.i64 (IntKind.wrap IntKind.i64 (m - 30)))) },
            some { k := 3, c := DC.lst [[DV.any, DV.any, DV.any]] }]
      else
        K Ex.normal 87 [DV.v (Value.int IntKind.i64 m), DV.po 0 0 0, DV.po 1 0 0]
          [some
              { k := 3,
                c :=
                  DC.lst
                    [[DV.v (Value.int IntKind.i64 x), DV.v (Value.int IntKind.i64 y), DV.v (Value.int IntKind.i64 f)]] },
            some { k := 3, c := DC.lst [[DV.any, DV.any, DV.any]] }]
    else
      K Ex.normal 87 [DV.v (Value.int IntKind.i64 m), DV.po 0 0 0, DV.po 1 0 0]
        [some
            { k := 3,
              c :=
                DC.lst [[DV.v (Value.int IntKind.i64 x), DV.v (Value.int IntKind.i64 y), DV.v (Value.int IntKind.i64 f)]] },
          some { k := 3, c := DC.lst [[DV.any, DV.any, DV.any]] }] := by
  kernel_rfl
theorem if30_ok {st : AE.Stat} (hst : CodesIn st) : LoopS Tryd.prog st gl0 (pieceOf Tryd.f28 30) (ifI g30).g := by
  refine (ifI g30).okP (E := env [] noLp 0) (p := 500) (tblD_env (l := []) (fun _ h => nomatch h)) (glOk hst).1 (fun _ _ _ h => nomatch h) (fun x k h => h) fun x _ => ?_
  obtain ⟨⟨x, y, f⟩, m⟩ := x
  refine (if30_tree x y f m _).trans ?_
  have leaf : ∀ (c0 c1 : DC), (1 ≤ c0.n ∧ 1 ≤ c1.n) → (c0.get 0 0 = iv (g30 m ⟨x, y, f⟩).x ∧ c0.get 0 1 = iv (g30 m ⟨x, y, f⟩).y ∧ c0.get 0 2 = iv (g30 m ⟨x, y, f⟩).f) →
      (ifI g30).askP (⟨x, y, f⟩, m) .normal 87 [iv m, .po 0 0 0, .po 1 0 0] [some ⟨3, c0⟩, some ⟨3, c1⟩] = some () := fun c0 c1 hn ⟨e0, e1, e2⟩ =>
    LInv.askP_of ⟨rfl, rfl, [], wkA tm3 (subC3 hn.1 (by rw [e0]; exact .v _) (by rw [e1]; exact .v _) (by rw [e2]; exact .v _)) (subRow hn.2)⟩
  repeat' (first | refine leaf _ _ ⟨Nat.le_refl _, Nat.le_refl _⟩ ?_ | refine cS (fun h => ?_) (fun h => ?_))
  all_goals (clear leaf; simp only [decide_eq_true_eq, decide_eq_false_iff_not, beq_iff_eq, beq_eq_false_iff_ne, ne_eq] at *)
  all_goals (unfold g30; first | (rw [if_pos (by omega)]; refine ⟨?_, ?_, ?_⟩ <;> first | rfl | (show DV.v _ = DV.v _; rw [W_in (by omega) (by omega)])) | (rw [if_neg (by omega)]; exact ⟨rfl, rfl, rfl⟩))
def g62 (m : Int) (a : At) : At := if 90 ≤ m ∧ m ≤ 97 then { a with x := m - 82 } else a
theorem if62_tree (x y f m : Int) (K : Ex → Nat → List DV → DHeap → Option Unit) : execD Tryd.prog (env [] noLp 0) (pieceOf Tryd.f28 62) 500 (temps 87 [1, 2, 4] [iv m, .po 0 0 0, .po 1 0 0]) [some (row3 (iv x) (iv y) (iv f)), some row0] (fun e τ σ => K e τ.length (pick [1, 2, 4] τ) σ) =
    bif decide (m ≥ 90) then
      bif decide (m ≤ 97) then
        K Ex.normal 87 [DV.v (Value.int IntKind.i64 m), DV.po 0 0 0, DV.po 1 0 0]
          [some
              { k := 3,
                c :=
                  DC.upd
                    (DC.lst
                      [[DV.v (Value.int IntKind.i64 x), DV.v (Value.int IntKind.i64 y), DV.v (Value.int IntKind.i64 f)]])
                    0 0 (DV.v (Value.int IntKind.i64 (IntKind.wrap IntKind.i64 (m - 82)))) },
            some { k := 3, c := DC.lst [[DV.any, DV.any, DV.any]] }]
      else
        K Ex.normal 87 [DV.v (Value.int IntKind.i64 m), DV.po 0 0 0, DV.po 1 0 0]
          [some
              { k := 3,
                c :=
                  DC.lst
                    [[DV.v (Value.int IntKind.i64 x), DV.v (Value.int IntKind.i64 y), DV.v (Value.int IntKind.i64 f)]] },
            some { k := 3, c := DC.lst [[DV.any, DV.any, DV.any]] }]
    else
      K Ex.normal 87 [DV.v (Value.int IntKind.i64 m), DV.po 0 0 0, DV.po 1 0 0]
        [some
            { k := 3,
              c :=
                DC.lst [[DV.v (Value.int IntKind.i64 x), DV.v (Value.int IntKind.i64 y), DV.v (Value.int IntKind.i64 f)]] },
          some { k := 3, c := DC.lst [[DV.any, DV.any, DV.any]] }] := by
  kernel_rfl
theorem if62_ok {st : AE.Stat} (hst : CodesIn st) : LoopS Tryd.prog st gl0 (pieceOf Tryd.f28 62) (ifI g62).g := by
  refine (ifI g62).okP (E := env [] noLp 0) (p := 500) (tblD_env (l := []) (fun _ h => nomatch h)) (glOk hst).1 (fun _ _ _ h => nomatch h) (fun x k h => h) fun x _ => ?_
  obtain ⟨⟨x, y, f⟩, m⟩ := x
  refine (if62_tree x y f m _).trans ?_
  have leaf : ∀ (c0 c1 : DC), (1 ≤ c0.n ∧ 1 ≤ c1.n) → (c0.get 0 0 = iv (g62 m ⟨x, y, f⟩).x ∧ c0.get 0 1 = iv (g62 m ⟨x, y, f⟩).y ∧ c0.get 0 2 = iv (g62 m ⟨x, y, f⟩).f) →
      (ifI g62).askP (⟨x, y, f⟩, m) .normal 87 [iv m, .po 0 0 0, .po 1 0 0] [some ⟨3, c0⟩, some ⟨3, c1⟩] = some () := fun c0 c1 hn ⟨e0, e1, e2⟩ =>
    LInv.askP_of ⟨rfl, rfl, [], wkA tm3 (subC3 hn.1 (by rw [e0]; exact .v _) (by rw [e1]; exact .v _) (by rw [e2]; exact .v _)) (subRow hn.2)⟩
  repeat' (first | refine leaf _ _ ⟨Nat.le_refl _, Nat.le_refl _⟩ ?_ | refine cS (fun h => ?_) (fun h => ?_))
  all_goals (clear leaf; simp only [decide_eq_true_eq, decide_eq_false_iff_not, beq_iff_eq, beq_eq_false_iff_ne, ne_eq] at *)
  all_goals (unfold g62; first | (rw [if_pos (by omega)]; refine ⟨?_, ?_, ?_⟩ <;> first | rfl | (show DV.v _ = DV.v _; rw [W_in (by omega) (by omega)])) | (rw [if_neg (by omega)]; exact ⟨rfl, rfl, rfl⟩))
def g126 (m : Int) (a : At) : At := if 40 ≤ m ∧ m ≤ 47 then { a with y := m - 40 } else a
theorem if126_tree (x y f m : Int) (K : Ex → Nat → List DV → DHeap → Option Unit) : execD Tryd.prog (env [] noLp 0) (pieceOf Tryd.f28 126) 500 (temps 87 [1, 2, 4] [iv m, .po 0 0 0, .po 1 0 0]) [some (row3 (iv x) (iv y) (iv f)), some row0] (fun e τ σ => K e τ.length (pick [1, 2, 4] τ) σ) =
    bif decide (m ≥ 40) then
      bif decide (m ≤ 47) then
        K Ex.normal 87 [DV.v (Value.int IntKind.i64 m), DV.po 0 0 0, DV.po 1 0 0]
          [some
              { k := 3,
                c :=
                  DC.upd
                    (DC.lst
                      [[DV.v (Value.int IntKind.i64 x), DV.v (Value.int IntKind.i64 y), DV.v (Value.int IntKind.i64 f)]])
                    0 1 (DV.v (Value.int IntKind.i64 (IntKind.wrap IntKind.i64 (m - 40)))) },
            some { k := 3, c := DC.lst [[DV.any, DV.any, DV.any]] }]
      else
        K Ex.normal 87 [DV.v (Value.int IntKind.i64 m), DV.po 0 0 0, DV.po 1 0 0]
          [some
              { k := 3,
                c :=
                  DC.lst
                    [[DV.v (Value.int IntKind.i64 x), DV.v (Value.int IntKind.i64 y), DV.v (Value.int IntKind.i64 f)]] },
            some { k := 3, c := DC.lst [[DV.any, DV.any, DV.any]] }]
    else
      K Ex.normal 87 [DV.v (Value.int IntKind.i64 m), DV.po 0 0 0, DV.po 1 0 0]
        [some
            { k := 3,
              c :=
                DC.lst [[DV.v (Value.int IntKind.i64 x), DV.v (Value.int IntKind.i64 y), DV.v (Value.int IntKind.i64 f)]] },
          some { k := 3, c := DC.lst [[DV.any, DV.any, DV.any]] }] := by
  kernel_rfl
theorem if126_ok {st : AE.Stat} (hst : CodesIn st) : LoopS Tryd.prog st gl0 (pieceOf Tryd.f28 126) (ifI g126).g := by
  refine (ifI g126).okP (E := env [] noLp 0) (p := 500) (tblD_env (l := []) (fun _ h => nomatch h)) (glOk hst).1 (fun _ _ _ h => nomatch h) (fun x k h => h) fun x _ => ?_
  obtain ⟨⟨x, y, f⟩, m⟩ := x
  refine (if126_tree x y f m _).trans ?_
  have leaf : ∀ (c0 c1 : DC), (1 ≤ c0.n ∧ 1 ≤ c1.n) → (c0.get 0 0 = iv (g126 m ⟨x, y, f⟩).x ∧ c0.get 0 1 = iv (g126 m ⟨x, y, f⟩).y ∧ c0.get 0 2 = iv (g126 m ⟨x, y, f⟩).f) →
      (ifI g126).askP (⟨x, y, f⟩, m) .normal 87 [iv m, .po 0 0 0, .po 1 0 0] [some ⟨3, c0⟩, some ⟨3, c1⟩] = some () := fun c0 c1 hn ⟨e0, e1, e2⟩ =>
    LInv.askP_of ⟨rfl, rfl, [], wkA tm3 (subC3 hn.1 (by rw [e0]; exact .v _) (by rw [e1]; exact .v _) (by rw [e2]; exact .v _)) (subRow hn.2)⟩
  repeat' (first | refine leaf _ _ ⟨Nat.le_refl _, Nat.le_refl _⟩ ?_ | refine cS (fun h => ?_) (fun h => ?_))
  all_goals (clear leaf; simp only [decide_eq_true_eq, decide_eq_false_iff_not, beq_iff_eq, beq_eq_false_iff_ne, ne_eq] at *)
  all_goals (unfold g126; first | (rw [if_pos (by omega)]; refine ⟨?_, ?_, ?_⟩ <;> first | rfl | (show DV.v _ = DV.v _; rw [W_in (by omega) (by omega)])) | (rw [if_neg (by omega)]; exact ⟨rfl, rfl, rfl⟩))
def g254 (m : Int) (a : At) : At := if 100 ≤ m ∧ m ≤ 107 then { a with y := m - 92 } else a
theorem if254_tree (x y f m : Int) (K : Ex → Nat → List DV → DHeap → Option Unit) : execD Tryd.prog (env [] noLp 0) (pieceOf Tryd.f28 254) 500 (temps 87 [1, 2, 4] [iv m, .po 0 0 0, .po 1 0 0]) [some (row3 (iv x) (iv y) (iv f)), some row0] (fun e τ σ => K e τ.length (pick [1, 2, 4] τ) σ) =
    bif decide (m ≥ 100) then
      bif decide (m ≤ 107) then
        K Ex.normal 87 [DV.v (Value.int IntKind.i64 m), DV.po 0 0 0, DV.po 1 0 0]
          [some
              { k := 3,
                c :=
                  DC.upd
                    (DC.lst
                      [[DV.v (Value.int IntKind.i64 x), DV.v (Value.int IntKind.i64 y), DV.v (Value.int IntKind.i64 f)]])
                    0 1 (DV.v (Value.int IntKind.i64 (IntKind.wrap IntKind.i64 (m - 92)))) },
            some { k := 3, c := DC.lst [[DV.any, DV.any, DV.any]] }]
      else
        K Ex.normal 87 [DV.v (Value.int IntKind.i64 m), DV.po 0 0 0, DV.po 1 0 0]
          [some
              { k := 3,
                c :=
                  DC.lst
                    [[DV.v (Value.int IntKind.i64 x), DV.v (Value.int IntKind.i64 y), DV.v (Value.int IntKind.i64 f)]] },
            some { k := 3, c := DC.lst [[DV.any, DV.any, DV.any]] }]
    else
      K Ex.normal 87 [DV.v (Value.int IntKind.i64 m), DV.po 0 0 0, DV.po 1 0 0]
        [some
            { k := 3,
              c :=
                DC.lst [[DV.v (Value.int IntKind.i64 x), DV.v (Value.int IntKind.i64 y), DV.v (Value.int IntKind.i64 f)]] },
          some { k := 3, c := DC.lst [[DV.any, DV.any, DV.any]] }] := by
  kernel_rfl
theorem if254_ok {st : AE.Stat} (hst : CodesIn st) : LoopS Tryd.prog st gl0 (pieceOf Tryd.f28 254) (ifI g254).g := by
  refine (ifI g254).okP (E := env [] noLp 0) (p := 500) (tblD_env (l := []) (fun _ h => nomatch h)) (glOk hst).1 (fun _ _ _ h => nomatch h) (fun x k h => h) fun x _ => ?_
  obtain ⟨⟨x, y, f⟩, m⟩ := x
  refine (if254_tree x y f m _).trans ?_
  have leaf : ∀ (c0 c1 : DC), (1 ≤ c0.n ∧ 1 ≤ c1.n) → (c0.get 0 0 = iv (g254 m ⟨x, y, f⟩).x ∧ c0.get 0 1 = iv (g254 m ⟨x, y, f⟩).y ∧ c0.get 0 2 = iv (g254 m ⟨x, y, f⟩).f) →
      (ifI g254).askP (⟨x, y, f⟩, m) .normal 87 [iv m, .po 0 0 0, .po 1 0 0] [some ⟨3, c0⟩, some ⟨3, c1⟩] = some () := fun c0 c1 hn ⟨e0, e1, e2⟩ =>
    LInv.askP_of ⟨rfl, rfl, [], wkA tm3 (subC3 hn.1 (by rw [e0]; exact .v _) (by rw [e1]; exact .v _) (by rw [e2]; exact .v _)) (subRow hn.2)⟩
  repeat' (first | refine leaf _ _ ⟨Nat.le_refl _, Nat.le_refl _⟩ ?_ | refine cS (fun h => ?_) (fun h => ?_))
  all_goals (clear leaf; simp only [decide_eq_true_eq, decide_eq_false_iff_not, beq_iff_eq, beq_eq_false_iff_ne, ne_eq] at *)
  all_goals (unfold g254; first | (rw [if_pos (by omega)]; refine ⟨?_, ?_, ?_⟩ <;> first | rfl | (show DV.v _ = DV.v _; rw [W_in (by omega) (by omega)])) | (rw [if_neg (by omega)]; exact ⟨rfl, rfl, rfl⟩))
def g510 (m : Int) (a : At) : At := if m = 39 then { a with x := -1 } else a
theorem if510_tree (x y f m : Int) (K : Ex → Nat → List DV → DHeap → Option Unit) : execD Tryd.prog (env [] noLp 0) (pieceOf Tryd.f28 510) 500 (temps 87 [1, 2, 4] [iv m, .po 0 0 0, .po 1 0 0]) [some (row3 (iv x) (iv y) (iv f)), some row0] (fun e τ σ => K e τ.length (pick [1, 2, 4] τ) σ) =
    bif m == 39 then
      K Ex.normal 87 [DV.v (Value.int IntKind.i64 m), DV.po 0 0 0, DV.po 1 0 0]
        [some
            { k := 3,
              c :=
                DC.upd
                  (DC.lst
                    [[DV.v (Value.int IntKind.i64 x), DV.v (Value.int IntKind.i64 y), DV.v (Value.int IntKind.i64 f)]])
                  0 0 (DV.v (Value.int IntKind.i64 (-1))) },
          some { k := 3, c := DC.lst [[DV.any, DV.any, DV.any]] }]
    else
      K Ex.normal 87 [DV.v (Value.int IntKind.i64 m), DV.po 0 0 0, DV.po 1 0 0]
        [some
            { k := 3,
              c :=
                DC.lst [[DV.v (Value.int IntKind.i64 x), DV.v (Value.int IntKind.i64 y), DV.v (Value.int IntKind.i64 f)]] },
          some { k := 3, c := DC.lst [[DV.any, DV.any, DV.any]] }] := by
  kernel_rfl
theorem if510_ok {st : AE.Stat} (hst : CodesIn st) : LoopS Tryd.prog st gl0 (pieceOf Tryd.f28 510) (ifI g510).g := by
  refine (ifI g510).okP (E := env [] noLp 0) (p := 500) (tblD_env (l := []) (fun _ h => nomatch h)) (glOk hst).1 (fun _ _ _ h => nomatch h) (fun x k h => h) fun x _ => ?_
  obtain ⟨⟨x, y, f⟩, m⟩ := x
  refine (if510_tree x y f m _).trans ?_
  have leaf : ∀ (c0 c1 : DC), (1 ≤ c0.n ∧ 1 ≤ c1.n) → (c0.get 0 0 = iv (g510 m ⟨x, y, f⟩).x ∧ c0.get 0 1 = iv (g510 m ⟨x, y, f⟩).y ∧ c0.get 0 2 = iv (g510 m ⟨x, y, f⟩).f) →
      (ifI g510).askP (⟨x, y, f⟩, m) .normal 87 [iv m, .po 0 0 0, .po 1 0 0] [some ⟨3, c0⟩, some ⟨3, c1⟩] = some () := fun c0 c1 hn ⟨e0, e1, e2⟩ =>
    LInv.askP_of ⟨rfl, rfl, [], wkA tm3 (subC3 hn.1 (by rw [e0]; exact .v _) (by rw [e1]; exact .v _) (by rw [e2]; exact .v _)) (subRow hn.2)⟩
  repeat' (first | refine leaf _ _ ⟨Nat.le_refl _, Nat.le_refl _⟩ ?_ | refine cS (fun h => ?_) (fun h => ?_))
  all_goals (clear leaf; simp only [decide_eq_true_eq, decide_eq_false_iff_not, beq_iff_eq, beq_eq_false_iff_ne, ne_eq] at *)
  all_goals (unfold g510; first | (rw [if_pos (by omega)]; refine ⟨?_, ?_, ?_⟩ <;> first | rfl | (show DV.v _ = DV.v _; rw [W_in (by omega) (by omega)])) | (rw [if_neg (by omega)]; exact ⟨rfl, rfl, rfl⟩))
def g1022 (m : Int) (a : At) : At := if m = 49 then { a with y := -1 } else a
theorem if1022_tree (x y f m : Int) (K : Ex → Nat → List DV → DHeap → Option Unit) : execD Tryd.prog (env [] noLp 0) (pieceOf Tryd.f28 1022) 500 (temps 87 [1, 2, 4] [iv m, .po 0 0 0, .po 1 0 0]) [some (row3 (iv x) (iv y) (iv f)), some row0] (fun e τ σ => K e τ.length (pick [1, 2, 4] τ) σ) =
    bif m == 49 then
      K Ex.normal 87 [DV.v (Value.int IntKind.i64 m), DV.po 0 0 0, DV.po 1 0 0]
        [some
            { k := 3,
              c :=
                DC.upd
                  (DC.lst
                    [[DV.v (Value.int IntKind.i64 x), DV.v (Value.int IntKind.i64 y), DV.v (Value.int IntKind.i64 f)]])
                  0 1 (DV.v (Value.int IntKind.i64 (-1))) },
          some { k := 3, c := DC.lst [[DV.any, DV.any, DV.any]] }]
    else
      K Ex.normal 87 [DV.v (Value.int IntKind.i64 m), DV.po 0 0 0, DV.po 1 0 0]
        [some
            { k := 3,
              c :=
                DC.lst [[DV.v (Value.int IntKind.i64 x), DV.v (Value.int IntKind.i64 y), DV.v (Value.int IntKind.i64 f)]] },
          some { k := 3, c := DC.lst [[DV.any, DV.any, DV.any]] }] := by
  kernel_rfl
theorem if1022_ok {st : AE.Stat} (hst : CodesIn st) : LoopS Tryd.prog st gl0 (pieceOf Tryd.f28 1022) (ifI g1022).g := by
  refine (ifI g1022).okP (E := env [] noLp 0) (p := 500) (tblD_env (l := []) (fun _ h => nomatch h)) (glOk hst).1 (fun _ _ _ h => nomatch h) (fun x k h => h) fun x _ => ?_
  obtain ⟨⟨x, y, f⟩, m⟩ := x
  refine (if1022_tree x y f m _).trans ?_
  have leaf : ∀ (c0 c1 : DC), (1 ≤ c0.n ∧ 1 ≤ c1.n) → (c0.get 0 0 = iv (g1022 m ⟨x, y, f⟩).x ∧ c0.get 0 1 = iv (g1022 m ⟨x, y, f⟩).y ∧ c0.get 0 2 = iv (g1022 m ⟨x, y, f⟩).f) →
      (ifI g1022).askP (⟨x, y, f⟩, m) .normal 87 [iv m, .po 0 0 0, .po 1 0 0] [some ⟨3, c0⟩, some ⟨3, c1⟩] = some () := fun c0 c1 hn ⟨e0, e1, e2⟩ =>
    LInv.askP_of ⟨rfl, rfl, [], wkA tm3 (subC3 hn.1 (by rw [e0]; exact .v _) (by rw [e1]; exact .v _) (by rw [e2]; exact .v _)) (subRow hn.2)⟩
  repeat' (first | refine leaf _ _ ⟨Nat.le_refl _, Nat.le_refl _⟩ ?_ | refine cS (fun h => ?_) (fun h => ?_))
  all_goals (clear leaf; simp only [decide_eq_true_eq, decide_eq_false_iff_not, beq_iff_eq, beq_eq_false_iff_ne, ne_eq] at *)
  all_goals (unfold g1022; first | (rw [if_pos (by omega)]; refine ⟨?_, ?_, ?_⟩ <;> first | rfl | (show DV.v _ = DV.v _; rw [W_in (by omega) (by omega)])) | (rw [if_neg (by omega)]; exact ⟨rfl, rfl, rfl⟩))

def oneF (a : At) (m : Int) : At := if m = 0 then dfl else g1022 m (g510 m (g254 m (g126 m (g62 m (g30 m ⟨a.x, a.y, oneR m 8 0 a.f⟩)))))
noncomputable def oneC : ConF := fun args k => match args with
  | [.agg [.v (.int .i64 x), .v (.int .i64 y), .v (.int .i64 f)], .v (.int .i64 m)] => k fun _ => (.agg [iv (oneF ⟨x, y, f⟩ m).x, iv (oneF ⟨x, y, f⟩ m).y, iv (oneF ⟨x, y, f⟩ m).f], [])
  | _ => none
noncomputable abbrev oneT : List (Nat × LoopD Unit) := [(58, oneI.g), (30, (ifI g30).g), (62, (ifI g62).g), (126, (ifI g126).g), (254, (ifI g254).g), (510, (ifI g510).g), (1022, (ifI g1022).g)]
theorem one_fun (x y f m : Int) (k : DV → Option Unit) : bodyD Tryd.prog (env [(22, dflC)] (lpOf oneT) 0) Tryd.f28 [.agg [iv x, iv y, iv f], iv m] [] (fun d _ => k d) =
    bif m == 0 then
      k (DV.agg [DV.v (Value.int IntKind.i64 (-1)), DV.v (Value.int IntKind.i64 (-1)), DV.v (Value.int IntKind.i64 0)])
    else
      bif
          holds
            (LInv.pre oneI { a := { x := x, y := y, f := f }, m := m, i := 0, hi := oneI._proof_1 } ∧
              ∃ ids,
                WkP 2 ids [DV.v (Value.int IntKind.i64 m), DV.po 0 0 0, DV.po 1 0 0, DV.v (Value.int IntKind.i64 0)]
                  [some
                      { k := 3,
                        c :=
                          DC.lst
                            [[DV.v (Value.int IntKind.i64 x), DV.v (Value.int IntKind.i64 y),
                                DV.v (Value.int IntKind.i64 f)]] },
                    some
                      { k := 3,
                        c :=
                          DC.lst
                            [[DV.v (Value.int IntKind.i64 0), DV.v (Value.int IntKind.i64 0),
                                DV.v (Value.int IntKind.i64 0)]] }]
                  [DV.v (Value.int IntKind.i64 m), DV.po 0 0 0, DV.po 1 0 0, DV.v (Value.int IntKind.i64 (↑0 : Int))]
                  [some
                      { k := 3,
                        c :=
                          DC.lst
                            [[DV.v (Value.int IntKind.i64 x), DV.v (Value.int IntKind.i64 y),
                                DV.v (Value.int IntKind.i64 f)]] },
                    some { k := 3, c := DC.lst [[DV.any, DV.any, DV.any]] }]) then
        bif
            holds
              (LInv.pre (ifI g30)
                  ({ x := x, y := y, f := OX.f { a := { x := x, y := y, f := f }, m := m, i := 0, hi := oneI._proof_1 } },
                    m) ∧
                ∃ ids,
                  WkP 2 ids [DV.v (Value.int IntKind.i64 m), DV.po 0 0 0, DV.po 1 0 0]
                    [some
                        (row3 (DV.v (Value.int IntKind.i64 x)) (DV.v (Value.int IntKind.i64 y))
                          (DV.v
                            (Value.int IntKind.i64
                              (OX.f { a := { x := x, y := y, f := f }, m := m, i := 0, hi := oneI._proof_1 })))),
                      some row0]
                    [DV.v (Value.int IntKind.i64 m), DV.po 0 0 0, DV.po 1 0 0]
                    [some
                        { k := 3,
                          c :=
                            DC.lst
                              [[DV.v (Value.int IntKind.i64 x), DV.v (Value.int IntKind.i64 y),
                                  DV.v
                                    (Value.int IntKind.i64
                                      (OX.f { a := { x := x, y := y, f := f }, m := m, i := 0, hi := oneI._proof_1 }))]] },
                      some { k := 3, c := DC.lst [[DV.any, DV.any, DV.any]] }]) then
          bif
              holds
                (LInv.pre (ifI g62)
                    (g30 m
                        { x := x, y := y,
                          f := OX.f { a := { x := x, y := y, f := f }, m := m, i := 0, hi := oneI._proof_1 } },
                      m) ∧
                  ∃ ids,
                    WkP 2 ids [DV.v (Value.int IntKind.i64 m), DV.po 0 0 0, DV.po 1 0 0]
                      [some
                          (row3
                            (DV.v
                              (Value.int IntKind.i64
                                (At.x
                                  (g30 m
                                    { x := x, y := y,
                                      f :=
                                        OX.f { a := { x := x, y := y, f := f }, m := m, i := 0, hi := oneI._proof_1 } }))))
                            (DV.v
                              (Value.int IntKind.i64
                                (At.y
                                  (g30 m
                                    { x := x, y := y,
                                      f :=
                                        OX.f { a := { x := x, y := y, f := f }, m := m, i := 0, hi := oneI._proof_1 } }))))
                            (DV.v
                              (Value.int IntKind.i64
                                (At.f
                                  (g30 m
                                    { x := x, y := y,
                                      f :=
                                        OX.f
                                          { a := { x := x, y := y, f := f }, m := m, i := 0, hi := oneI._proof_1 } }))))),
                        some row0]
                      [DV.v (Value.int IntKind.i64 m), DV.po 0 0 0, DV.po 1 0 0]
                      [some
                          { k := 3,
                            c :=
                              DC.lst
                                [[DV.v
                                      (Value.int IntKind.i64
                                        (At.x
                                          (g30 m
                                            { x := x, y := y,
                                              f :=
                                                OX.f
                                                  { a := { x := x, y := y, f := f }, m := m, i := 0,
                                                    hi := oneI._proof_1 } }))),
                                    DV.v
                                      (Value.int IntKind.i64
                                        (At.y
                                          (g30 m
                                            { x := x, y := y,
                                              f :=
                                                OX.f
                                                  { a := { x := x, y := y, f := f }, m := m, i := 0,
                                                    hi := oneI._proof_1 } }))),
                                    DV.v
                                      (Value.int IntKind.i64
                                        (At.f
                                          (g30 m
                                            { x := x, y := y,
                                              f :=
                                                OX.f
                                                  { a := { x := x, y := y, f := f }, m := m, i := 0,
                                                    hi := oneI._proof_1 } })))]] },
                        some { k := 3, c := DC.lst [[DV.any, DV.any, DV.any]] }]) then
            bif
                holds
                  (LInv.pre (ifI g126)
                      (g62 m
                          (g30 m
                            { x := x, y := y,
                              f := OX.f { a := { x := x, y := y, f := f }, m := m, i := 0, hi := oneI._proof_1 } }),
                        m) ∧
                    ∃ ids,
                      WkP 2 ids [DV.v (Value.int IntKind.i64 m), DV.po 0 0 0, DV.po 1 0 0]
                        [some
                            (row3
                              (DV.v
                                (Value.int IntKind.i64
                                  (At.x
                                    (g62 m
                                      (g30 m
                                        { x := x, y := y,
                                          f :=
                                            OX.f
                                              { a := { x := x, y := y, f := f }, m := m, i := 0,
                                                hi := oneI._proof_1 } })))))
                              (DV.v
                                (Value.int IntKind.i64
                                  (At.y
                                    (g62 m
                                      (g30 m
                                        { x := x, y := y,
                                          f :=
                                            OX.f
                                              { a := { x := x, y := y, f := f }, m := m, i := 0,
                                                hi := oneI._proof_1 } })))))
                              (DV.v
                                (Value.int IntKind.i64
                                  (At.f
                                    (g62 m
                                      (g30 m
                                        { x := x, y := y,
                                          f :=
                                            OX.f
                                              { a := { x := x, y := y, f := f }, m := m, i := 0,
                                                hi := oneI._proof_1 } })))))),
                          some row0]
                        [DV.v (Value.int IntKind.i64 m), DV.po 0 0 0, DV.po 1 0 0]
                        [some
                            { k := 3,
                              c :=
                                DC.lst
                                  [[DV.v
                                        (Value.int IntKind.i64
                                          (At.x
                                            (g62 m
                                              (g30 m
                                                { x := x, y := y,
                                                  f :=
                                                    OX.f
                                                      { a := { x := x, y := y, f := f }, m := m, i := 0,
                                                        hi := oneI._proof_1 } })))),
                                      DV.v
                                        (Value.int IntKind.i64
                                          (At.y
                                            (g62 m
                                              (g30 m
                                                { x := x, y := y,
                                                  f :=
                                                    OX.f
                                                      { a := { x := x, y := y, f := f }, m := m, i := 0,
                                                        hi := oneI._proof_1 } })))),
                                      DV.v
                                        (Value.int IntKind.i64
                                          (At.f
                                            (g62 m
                                              (g30 m
                                                { x := x, y := y,
                                                  f :=
                                                    OX.f
                                                      { a := { x := x, y := y, f := f }, m := m, i := 0,
                                                        hi := oneI._proof_1 } }))))]] },
                          some { k := 3, c := DC.lst [[DV.any, DV.any, DV.any]] }]) then
              bif
                  holds
                    (LInv.pre (ifI g254)
                        (g126 m
                            (g62 m
                              (g30 m
                                { x := x, y := y,
                                  f := OX.f { a := { x := x, y := y, f := f }, m := m, i := 0, hi := oneI._proof_1 } })),
                          m) ∧
                      ∃ ids,
                        WkP 2 ids [DV.v (Value.int IntKind.i64 m), DV.po 0 0 0, DV.po 1 0 0]
                          [some
                              (row3
                                (DV.v
                                  (Value.int IntKind.i64
                                    (At.x
                                      (g126 m
                                        (g62 m
                                          (g30 m
                                            { x := x, y := y,
                                              f :=
                                                OX.f
                                                  { a := { x := x, y := y, f := f }, m := m, i := 0,
                                                    hi := oneI._proof_1 } }))))))
                                (DV.v
                                  (Value.int IntKind.i64
                                    (At.y
                                      (g126 m
                                        (g62 m
                                          (g30 m
                                            { x := x, y := y,
                                              f :=
                                                OX.f
                                                  { a := { x := x, y := y, f := f }, m := m, i := 0,
                                                    hi := oneI._proof_1 } }))))))
                                (DV.v
                                  (Value.int IntKind.i64
                                    (At.f
                                      (g126 m
                                        (g62 m
                                          (g30 m
                                            { x := x, y := y,
                                              f :=
                                                OX.f
                                                  { a := { x := x, y := y, f := f }, m := m, i := 0,
                                                    hi := oneI._proof_1 } }))))))),
                            some row0]
                          [DV.v (Value.int IntKind.i64 m), DV.po 0 0 0, DV.po 1 0 0]
                          [some
                              { k := 3,
                                c :=
                                  DC.lst
                                    [[DV.v
                                          (Value.int IntKind.i64
                                            (At.x
                                              (g126 m
                                                (g62 m
                                                  (g30 m
                                                    { x := x, y := y,
                                                      f :=
                                                        OX.f
                                                          { a := { x := x, y := y, f := f }, m := m, i := 0,
                                                            hi := oneI._proof_1 } }))))),
                                        DV.v
                                          (Value.int IntKind.i64
                                            (At.y
                                              (g126 m
                                                (g62 m
                                                  (g30 m
                                                    { x := x, y := y,
                                                      f :=
                                                        OX.f
                                                          { a := { x := x, y := y, f := f }, m := m, i := 0,
                                                            hi := oneI._proof_1 } }))))),
                                        DV.v
                                          (Value.int IntKind.i64
                                            (At.f
                                              (g126 m
                                                (g62 m
                                                  (g30 m
                                                    { x := x, y := y,
                                                      f :=
                                                        OX.f
                                                          { a := { x := x, y := y, f := f }, m := m, i := 0,
                                                            hi := oneI._proof_1 } })))))]] },
                            some { k := 3, c := DC.lst [[DV.any, DV.any, DV.any]] }]) then
                bif
                    holds
                      (LInv.pre (ifI g510)
                          (g254 m
                              (g126 m
                                (g62 m
                                  (g30 m
                                    { x := x, y := y,
                                      f :=
                                        OX.f { a := { x := x, y := y, f := f }, m := m, i := 0, hi := oneI._proof_1 } }))),
                            m) ∧
                        ∃ ids,
                          WkP 2 ids [DV.v (Value.int IntKind.i64 m), DV.po 0 0 0, DV.po 1 0 0]
                            [some
                                (row3
                                  (DV.v
                                    (Value.int IntKind.i64
                                      (At.x
                                        (g254 m
                                          (g126 m
                                            (g62 m
                                              (g30 m
                                                { x := x, y := y,
                                                  f :=
                                                    OX.f
                                                      { a := { x := x, y := y, f := f }, m := m, i := 0,
                                                        hi := oneI._proof_1 } })))))))
                                  (DV.v
                                    (Value.int IntKind.i64
                                      (At.y
                                        (g254 m
                                          (g126 m
                                            (g62 m
                                              (g30 m
                                                { x := x, y := y,
                                                  f :=
                                                    OX.f
                                                      { a := { x := x, y := y, f := f }, m := m, i := 0,
                                                        hi := oneI._proof_1 } })))))))
                                  (DV.v
                                    (Value.int IntKind.i64
                                      (At.f
                                        (g254 m
                                          (g126 m
                                            (g62 m
                                              (g30 m
                                                { x := x, y := y,
                                                  f :=
                                                    OX.f
                                                      { a := { x := x, y := y, f := f }, m := m, i := 0,
                                                        hi := oneI._proof_1 } })))))))),
                              some row0]
                            [DV.v (Value.int IntKind.i64 m), DV.po 0 0 0, DV.po 1 0 0]
                            [some
                                { k := 3,
                                  c :=
                                    DC.lst
                                      [[DV.v
                                            (Value.int IntKind.i64
                                              (At.x
                                                (g254 m
                                                  (g126 m
                                                    (g62 m
                                                      (g30 m
                                                        { x := x, y := y,
                                                          f :=
                                                            OX.f
                                                              { a := { x := x, y := y, f := f }, m := m, i := 0,
                                                                hi := oneI._proof_1 } })))))),
                                          DV.v
                                            (Value.int IntKind.i64
                                              (At.y
                                                (g254 m
                                                  (g126 m
                                                    (g62 m
                                                      (g30 m
                                                        { x := x, y := y,
                                                          f :=
                                                            OX.f
                                                              { a := { x := x, y := y, f := f }, m := m, i := 0,
                                                                hi := oneI._proof_1 } })))))),
                                          DV.v
                                            (Value.int IntKind.i64
                                              (At.f
                                                (g254 m
                                                  (g126 m
                                                    (g62 m
                                                      (g30 m
                                                        { x := x, y := y,
                                                          f :=
                                                            OX.f
                                                              { a := { x := x, y := y, f := f }, m := m, i := 0,
                                                                hi := oneI._proof_1 } }))))))]] },
                              some { k := 3, c := DC.lst [[DV.any, DV.any, DV.any]] }]) then
                  bif
                      holds
                        (LInv.pre (ifI g1022)
                            (g510 m
                                (g254 m
                                  (g126 m
                                    (g62 m
                                      (g30 m
                                        { x := x, y := y,
                                          f :=
                                            OX.f
                                              { a := { x := x, y := y, f := f }, m := m, i := 0,
                                                hi := oneI._proof_1 } })))),
                              m) ∧
                          ∃ ids,
                            WkP 2 ids [DV.v (Value.int IntKind.i64 m), DV.po 0 0 0, DV.po 1 0 0]
                              [some
                                  (row3
                                    (DV.v
                                      (Value.int IntKind.i64
                                        (At.x
                                          (g510 m
                                            (g254 m
                                              (g126 m
                                                (g62 m
                                                  (g30 m
                                                    { x := x, y := y,
                                                      f :=
                                                        OX.f
                                                          { a := { x := x, y := y, f := f }, m := m, i := 0,
                                                            hi := oneI._proof_1 } }))))))))
                                    (DV.v
                                      (Value.int IntKind.i64
                                        (At.y
                                          (g510 m
                                            (g254 m
                                              (g126 m
                                                (g62 m
                                                  (g30 m
                                                    { x := x, y := y,
                                                      f :=
                                                        OX.f
                                                          { a := { x := x, y := y, f := f }, m := m, i := 0,
                                                            hi := oneI._proof_1 } }))))))))
                                    (DV.v
                                      (Value.int IntKind.i64
                                        (At.f
                                          (g510 m
                                            (g254 m
                                              (g126 m
                                                (g62 m
                                                  (g30 m
                                                    { x := x, y := y,
                                                      f :=
                                                        OX.f
                                                          { a := { x := x, y := y, f := f }, m := m, i := 0,
                                                            hi := oneI._proof_1 } }))))))))),
                                some row0]
                              [DV.v (Value.int IntKind.i64 m), DV.po 0 0 0, DV.po 1 0 0]
                              [some
                                  { k := 3,
                                    c :=
                                      DC.lst
                                        [[DV.v
                                              (Value.int IntKind.i64
                                                (At.x
                                                  (g510 m
                                                    (g254 m
                                                      (g126 m
                                                        (g62 m
                                                          (g30 m
                                                            { x := x, y := y,
                                                              f :=
                                                                OX.f
                                                                  { a := { x := x, y := y, f := f }, m := m, i := 0,
                                                                    hi := oneI._proof_1 } }))))))),
                                            DV.v
                                              (Value.int IntKind.i64
                                                (At.y
                                                  (g510 m
                                                    (g254 m
                                                      (g126 m
                                                        (g62 m
                                                          (g30 m
                                                            { x := x, y := y,
                                                              f :=
                                                                OX.f
                                                                  { a := { x := x, y := y, f := f }, m := m, i := 0,
                                                                    hi := oneI._proof_1 } }))))))),
                                            DV.v
                                              (Value.int IntKind.i64
                                                (At.f
                                                  (g510 m
                                                    (g254 m
                                                      (g126 m
                                                        (g62 m
                                                          (g30 m
                                                            { x := x, y := y,
                                                              f :=
                                                                OX.f
                                                                  { a := { x := x, y := y, f := f }, m := m, i := 0,
                                                                    hi := oneI._proof_1 } })))))))]] },
                                some { k := 3, c := DC.lst [[DV.any, DV.any, DV.any]] }]) then
                    k
                      (DV.agg
                        [DV.v
                            (Value.int IntKind.i64
                              (At.x
                                (g1022 m
                                  (g510 m
                                    (g254 m
                                      (g126 m
                                        (g62 m
                                          (g30 m
                                            { x := x, y := y,
                                              f :=
                                                OX.f
                                                  { a := { x := x, y := y, f := f }, m := m, i := 0,
                                                    hi := oneI._proof_1 } })))))))),
                          DV.v
                            (Value.int IntKind.i64
                              (At.y
                                (g1022 m
                                  (g510 m
                                    (g254 m
                                      (g126 m
                                        (g62 m
                                          (g30 m
                                            { x := x, y := y,
                                              f :=
                                                OX.f
                                                  { a := { x := x, y := y, f := f }, m := m, i := 0,
                                                    hi := oneI._proof_1 } })))))))),
                          DV.v
                            (Value.int IntKind.i64
                              (At.f
                                (g1022 m
                                  (g510 m
                                    (g254 m
                                      (g126 m
                                        (g62 m
                                          (g30 m
                                            { x := x, y := y,
                                              f :=
                                                OX.f
                                                  { a := { x := x, y := y, f := f }, m := m, i := 0,
                                                    hi := oneI._proof_1 } }))))))))])
                  else none
                else none
              else none
            else none
          else none
        else none
      else none := by
  kernel_rfl
theorem tm4' {m : Int} {i i' : Int} (h : i' = i) : SubL (ren 2 []) [iv m, .po 0 0 0, .po 1 0 0, iv i'] [iv m, .po 0 0 0, .po 1 0 0, iv i] := tm4 h
theorem wkRow {ds ds2 : List DV} {x y z : DV} {c : DC} (tm : SubL (ren 2 []) ds2 ds) (h : Clo x ∧ Clo y ∧ Clo z) (hn : 1 ≤ c.n) : WkP 2 [] ds [some (row3 x y z), some ⟨3, c⟩] ds2 [some (row3 x y z), some row0] :=
  wkA tm (subC3 (Nat.le_refl _) (.of_clo h.1) (.of_clo h.2.1) (.of_clo h.2.2)) (subRow hn)
theorem ints3 (x y z : Int) : Clo (iv x) ∧ Clo (iv y) ∧ Clo (iv z) := ⟨.v _, .v _, .v _⟩
theorem one_ok {st : AE.Stat} (hst : CodesIn st) : ConOk Tryd.prog st 28 oneC := by
  refine con_flat (mg := []) (l := [(22, dflC)]) (lp := lpOf oneT) (n := 0) (glOk hst) (fun x hx => ?_) Tryd.func28 (by kernel_rfl) (by kernel_rfl) (lp_table fun e he => ?_) fun args k hk => ?_
  · obtain rfl : x = (22, dflC) := by simpa using hx
    exact dfl22 hst
  · simp only [oneT, List.mem_cons, List.not_mem_nil, or_false] at he
    rcases he with rfl | rfl | rfl | rfl | rfl | rfl | rfl
    · exact ⟨.loop (loopAt Tryd.f28 58), by kernel_rfl, one_ls hst⟩
    · exact ⟨pieceOf Tryd.f28 30, by kernel_rfl, if30_ok hst⟩
    · exact ⟨pieceOf Tryd.f28 62, by kernel_rfl, if62_ok hst⟩
    · exact ⟨pieceOf Tryd.f28 126, by kernel_rfl, if126_ok hst⟩
    · exact ⟨pieceOf Tryd.f28 254, by kernel_rfl, if254_ok hst⟩
    · exact ⟨pieceOf Tryd.f28 510, by kernel_rfl, if510_ok hst⟩
    · exact ⟨pieceOf Tryd.f28 1022, by kernel_rfl, if1022_ok hst⟩
  · unfold oneC at hk
    split at hk <;> first | (cases hk; done) | skip
    rename_i x y f m
    refine ⟨[.agg [iv x, iv y, iv f], iv m], _, .self (.self .nil), flR_clo rfl, hk, (one_fun x y f m _).trans ?_⟩
    refine cS (fun h => ?_) fun h => ?_
    · have h : m = 0 := by simpa using h
      refine isD_of ?_
      unfold oneF
      rw [if_pos h]
      rfl
    · have h : ¬ m = 0 := by simpa using h
      refine hT ⟨trivial, [], wkRow (tm4 rfl) (ints3 _ _ _) (Nat.le_refl _)⟩ ?_
      refine hT ⟨trivial, [], wkRow tm3 (ints3 _ _ _) (Nat.le_refl _)⟩ (hT ⟨trivial, [], wkRow tm3 (ints3 _ _ _) (Nat.le_refl _)⟩ (hT ⟨trivial, [], wkRow tm3 (ints3 _ _ _) (Nat.le_refl _)⟩ (hT ⟨trivial, [], wkRow tm3 (ints3 _ _ _) (Nat.le_refl _)⟩ (hT ⟨trivial, [], wkRow tm3 (ints3 _ _ _) (Nat.le_refl _)⟩ (hT ⟨trivial, [], wkRow tm3 (ints3 _ _ _) (Nat.le_refl _)⟩ ?_)))))
      refine isD_of ?_
      unfold oneF
      rw [if_neg h]
      rfl
end Go.Proofs.YtolmaphpfhplpaaDoor
