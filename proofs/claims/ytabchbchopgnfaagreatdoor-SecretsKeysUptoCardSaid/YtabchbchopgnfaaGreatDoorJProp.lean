/-
  The contracts of the reference's Proper and Great, for one terminal.
  Conditions: none beyond those of the contracts.
-/
import Derived.Test.YtabchbchopgnfaaGreatDoorJGrid
namespace Go.Proofs.YtabchbchopgnfaaGreatDoor
open Go Go.AE Go.DE Go.RowKit

/-- Rows, one by one: as a callee may see them. -/
def isRow (d : DV) : Prop := d = .sl (slT d) (slG d) 5 (slN d) ∧ cellsOk (slG d) (slN d)
noncomputable def gcC (F : Int → Int → (Nat → Row) → Nat → Int) : ConF := fun args k => match args with
  | [.agg [.v (.int .i64 w), .v (.int .i64 h), .sl _ G 1 n]] => bif holds (n ≤ 9000000 ∧ ∀ i, i < n → isRow (G i 0)) then
      k (fun _ => (iv (F w h (fun i => ⟨slN (G i 0), fun j => strD (slG (G i 0) j 0), fun j => numD (slG (G i 0) j 1), fun j => numD (slG (G i 0) j 2), fun j => numD (slG (G i 0) j 3), fun j => numD (slG (G i 0) j 4)⟩) n), [])) else none
  | _ => none
theorem rows_cv {t : Bool} {G : Nat → Nat → DV} {n : Nat} (h : ∀ i, i < n → isRow (G i 0)) : Cv (.sl t G 1 n) (.sl t (rowsD (fun i => slT (G i 0)) fun i => rowD (G i 0)) 1 n) := Cv.sl fun i f hi hf => by
  obtain rfl : f = 0 := by omega
  obtain ⟨h1, h2⟩ := h i hi
  rw [h1]
  exact h2.cv _
theorem gcC_ok {st : AE.Stat} (hx : ∀ f, f ≠ 5 → f ≠ 22 → ∀ a σ, st.ext f a σ = none) : ConOk Tryz.prog st 23 (gcC check8) := by
  refine con_flat (mg := []) (l := [(28, rcC check7), (55, szC)]) (lp := lpOf [(122, gdI.g)]) (n := 0) (glOk st) (fun x h => ?_) Tryz.func23 (by kernel_rfl) (by kernel_rfl) (hx 23 (by decide) (by decide)) (lp_one (by kernel_rfl) (gd_ls hx)) fun args k hk => ?_
  · simp only [List.mem_cons, List.not_mem_nil, or_false] at h
    rcases h with rfl | rfl
    · exact rcC_ok hx
    · exact szC_ok hx
  unfold gcC at hk
  split at hk <;> first | (cases hk; done) | skip
  rename_i w h t G n
  obtain ⟨hb, hk⟩ := bif_none hk
  obtain ⟨hn, hG⟩ := holds_eq.1 hb
  exact ⟨[.agg [iv w, iv h, .sl t (rowsD (fun i => slT (G i 0)) fun i => rowD (G i 0)) 1 n]], _, .cons (Cv.agg (.self (.self (.cons (rows_cv hG) .nil)))) .nil, v_clo _, hk, gd_true w h t _ _ n hn fun i hi => (hG i hi).2.row⟩
/-- A terminal: its numbers, booleans and strings by their places; its lists. -/
structure Tm where
  I : Nat → Int
  B : Nat → Bool
  S : Nat → ByteArray
  gT : Nat → Bool
  gR : Nat → Row
  gn : Nat
  oT : Nat → Bool
  oR : Nat → Row
  on : Nat
  tb : Nat → Bool
  tn : Nat
  bT : Nat → Bool
  bR : Nat → Row
  bn : Nat
def tabsD (z : Nat → Bool) : Nat → Nat → DV := fun i _ => bv (z i)
def Tm.cells (x : Tm) : List DV :=
  [iv (x.I 0), iv (x.I 1), .sl false (rowsD x.gT x.gR) 1 x.gn, iv (x.I 3), iv (x.I 4), .sl false (rowsD x.oT x.oR) 1 x.on,
   iv (x.I 6), iv (x.I 7), bv (x.B 8), iv (x.I 9), iv (x.I 10), bv (x.B 11), iv (x.I 12), iv (x.I 13), iv (x.I 14), bv (x.B 15), kv .u8 (x.I 16), kv .u8 (x.I 17), iv (x.I 18),
   iv (x.I 19), iv (x.I 20), iv (x.I 21), bv (x.B 22), bv (x.B 23), bv (x.B 24), bv (x.B 25), bv (x.B 26), bv (x.B 27), bv (x.B 28), bv (x.B 29), kv .u8 (x.I 30), kv .u8 (x.I 31), iv (x.I 32),
   iv (x.I 33), iv (x.I 34), .sl false (tabsD x.tb) 1 x.tn, .sl false (rowsD x.bT x.bR) 1 x.bn, iv (x.I 37), sv (x.S 38), sv (x.S 39), sv (x.S 40), sv (x.S 41)]
def rowsOk (R : Nat → Row) (n : Nat) : Prop := n ≤ 9000000 ∧ ∀ i, i < n → (R i).sized
def Tm.ok (x : Tm) : Prop := rowsOk x.gR x.gn ∧ rowsOk x.oR x.on ∧ rowsOk x.bR x.bn ∧ x.tn ≤ 9000000 ∧ (x.S 40).size ≤ 9000000 ∧ (x.S 41).size ≤ 9000000
theorem Tm.clo (x : Tm) : ∀ d ∈ x.cells, Clo d := fun d hd => by
  simp only [Tm.cells, List.mem_cons, List.not_mem_nil, or_false] at hd
  repeat (first | (rcases hd with rfl | hd; first | exact Clo.v _ | exact Clo.sl _ _ _ _) | (subst hd; exact Clo.v _))
theorem isRow_of {T : Bool} {r : Row} (h : r.sized) : isRow (.sl T r.cell 5 r.n) := ⟨rfl, Row.ok h⟩
/-! ### Proper -/
def backF (R : Nat → Row) : Nat → Nat → Bool
  | 0, _ => true
  | m + 1, i => bif check7 (R i) != 0 then false else backF R m (i + 1)
def be (b : Bool) : Ex := match b with
  | true => .exit 0
  | false => .ret
def bo (v : Bool) (b : Bool) : List DV := match b with
  | true => [.any]
  | false => [bv v]
theorem b_cps {b v : Bool} {σ : DHeap} {k : Ex → List DV → DHeap → Option Unit} (h : (bif holds (b = true) then k (.exit 0) [.any] σ else k .ret [bv v] σ) = some ()) : k (be b) (bo v b) σ = some () := by
  rcases bif_some h with ⟨h1, h2⟩ | ⟨h1, h2⟩
  · rw [holds_eq.1 h1]; exact h2
  · cases b with
    | true => rw [holds_eq.2 rfl] at h1; cases h1
    | false => exact h2
noncomputable def ppI (x : Tm) : LInv Nat where
  pre i := i ≤ x.bn
  m := 1
  n := 131
  ps := [1, 3]
  sd i := [.po 0 0 0, iv (i : Int)]
  sh _ := [some ⟨42, .lst [x.cells]⟩]
  meas i := x.bn - i
  e i := be (backF x.bR (x.bn - i) i)
  qs := [2]
  od i := bo false (backF x.bR (x.bn - i) i)
  oh _ := [none]
  guess _ _ := some 0
  cps i k := bif holds (backF x.bR (x.bn - i) i = true) then k (.exit 0) [.any] [none] else k .ret [bv false] [none]
theorem pp_loop (F : Row → Int) (x : Tm) (i : Nat) (K : Ex → Nat → List DV → List DV → DHeap → Option Unit) : execD Tryz.prog (env [(28, rcC F)] noLp 0) (loopAt Tryz.f10 506) 500 (temps 131 [1, 3] [.po 0 0 0, iv i]) [some ⟨42, .lst [x.cells]⟩] (fun e τ σ => K e τ.length (pick [1, 3] τ) (pick [2] τ) σ) =
    bif decide ((↑i : Int) < (↑(Tm.bn x) : Int)) then bif decide ((↑i : Int) < (↑(Tm.bn x) : Int)) then bif decide (Int.toNat (↑i : Int) + (0 : Nat) < Tm.bn x) then bif holds (Nat.le (Row.n (Tm.bR x (Int.toNat (↑i : Int) + (0 : Nat)))) (9000000 : Nat) ∧ ∀ (i_1 : Nat), i_1 < Row.n (Tm.bR x (Int.toNat (↑i : Int) + (0 : Nat))) → DV.v (Value.string (Row.tx (Tm.bR x (Int.toNat (↑i : Int) + (0 : Nat))) i_1)) = DV.v (Value.string (strD (DV.v (Value.string (Row.tx (Tm.bR x (Int.toNat (↑i : Int) + (0 : Nat))) i_1))))) ∧ Nat.le (ByteArray.size (strD (DV.v (Value.string (Row.tx (Tm.bR x (Int.toNat (↑i : Int) + (0 : Nat))) i_1))))) (9000000 : Nat) ∧ DV.v (Value.int IntKind.i64 (Row.wd (Tm.bR x (Int.toNat (↑i : Int) + (0 : Nat))) i_1)) = DV.v (Value.int IntKind.i64 (numD (DV.v (Value.int IntKind.i64 (Row.wd (Tm.bR x (Int.toNat (↑i : Int) + (0 : Nat))) i_1))))) ∧ DV.v (Value.int IntKind.i64 (Row.fo (Tm.bR x (Int.toNat (↑i : Int) + (0 : Nat))) i_1)) = DV.v (Value.int IntKind.i64 (numD (DV.v (Value.int IntKind.i64 (Row.fo (Tm.bR x (Int.toNat (↑i : Int) + (0 : Nat))) i_1))))) ∧ DV.v (Value.int IntKind.i64 (Row.ba (Tm.bR x (Int.toNat (↑i : Int) + (0 : Nat))) i_1)) = DV.v (Value.int IntKind.i64 (numD (DV.v (Value.int IntKind.i64 (Row.ba (Tm.bR x (Int.toNat (↑i : Int) + (0 : Nat))) i_1))))) ∧ DV.v (Value.int IntKind.i64 (Row.fl (Tm.bR x (Int.toNat (↑i : Int) + (0 : Nat))) i_1)) = DV.v (Value.int IntKind.i64 (numD (DV.v (Value.int IntKind.i64 (Row.fl (Tm.bR x (Int.toNat (↑i : Int) + (0 : Nat))) i_1))))))
    then bif F { n := Row.n (Tm.bR x (Int.toNat (↑i : Int) + (0 : Nat))), tx := fun i_1 => strD (DV.v (Value.string (Row.tx (Tm.bR x (Int.toNat (↑i : Int) + (0 : Nat))) i_1))), wd := fun i_1 => numD (DV.v (Value.int IntKind.i64 (Row.wd (Tm.bR x (Int.toNat (↑i : Int) + (0 : Nat))) i_1))), fo := fun i_1 => numD (DV.v (Value.int IntKind.i64 (Row.fo (Tm.bR x (Int.toNat (↑i : Int) + (0 : Nat))) i_1))), ba := fun i_1 => numD (DV.v (Value.int IntKind.i64 (Row.ba (Tm.bR x (Int.toNat (↑i : Int) + (0 : Nat))) i_1))), fl := fun i_1 => numD (DV.v (Value.int IntKind.i64 (Row.fl (Tm.bR x (Int.toNat (↑i : Int) + (0 : Nat))) i_1))) } != (0 : Int)
    then K Ex.ret (131 : Nat) [DV.po (0 : Nat) (0 : Nat) (0 : Nat), DV.v (Value.int IntKind.i64 (↑i : Int))] [DV.v (Value.bool false)] [some { k := (42 : Nat), c := DC.lst [[DV.v (Value.int IntKind.i64 (Tm.I x (0 : Nat))), DV.v (Value.int IntKind.i64 (Tm.I x (1 : Nat))), DV.sl false (fun a a_1 => DV.sl (Tm.gT x a) (Row.cell (Tm.gR x a)) (5 : Nat) (Row.n (Tm.gR x a))) (1 : Nat) (Tm.gn x), DV.v (Value.int IntKind.i64 (Tm.I x (3 : Nat))), DV.v (Value.int IntKind.i64 (Tm.I x (4 : Nat))), DV.sl false (fun a a_1 => DV.sl (Tm.oT x a) (Row.cell (Tm.oR x a)) (5 : Nat) (Row.n (Tm.oR x a))) (1 : Nat) (Tm.on x), DV.v (Value.int IntKind.i64 (Tm.I x (6 : Nat))), DV.v (Value.int IntKind.i64 (Tm.I x (7 : Nat))), DV.v (Value.bool (Tm.B x (8 : Nat))), DV.v (Value.int IntKind.i64 (Tm.I x (9 : Nat))), DV.v (Value.int IntKind.i64 (Tm.I x (10 : Nat))), DV.v (Value.bool (Tm.B x (11 : Nat))), DV.v (Value.int IntKind.i64 (Tm.I x (12 : Nat))), DV.v (Value.int IntKind.i64 (Tm.I x (13 : Nat))), DV.v (Value.int IntKind.i64 (Tm.I x (14 : Nat))), DV.v (Value.bool (Tm.B x (15 : Nat))), DV.v (Value.int IntKind.u8 (Tm.I x (16 : Nat))), DV.v (Value.int IntKind.u8 (Tm.I x (17 : Nat))), DV.v (Value.int IntKind.i64 (Tm.I x (18 : Nat))), DV.v (Value.int IntKind.i64 (Tm.I x (19 : Nat))), DV.v (Value.int IntKind.i64 (Tm.I x (20 : Nat))), DV.v (Value.int IntKind.i64 (Tm.I x (21 : Nat))), DV.v (Value.bool (Tm.B x (22 : Nat))), DV.v (Value.bool (Tm.B x (23 : Nat))), DV.v (Value.bool (Tm.B x (24 : Nat))), DV.v (Value.bool (Tm.B x (25 : Nat))), DV.v (Value.bool (Tm.B x (26 : Nat))), DV.v (Value.bool (Tm.B x (27 : Nat))), DV.v (Value.bool (Tm.B x (28 : Nat))), DV.v (Value.bool (Tm.B x (29 : Nat))), DV.v (Value.int IntKind.u8 (Tm.I x (30 : Nat))), DV.v (Value.int IntKind.u8 (Tm.I x (31 : Nat))), DV.v (Value.int IntKind.i64 (Tm.I x (32 : Nat))), DV.v (Value.int IntKind.i64 (Tm.I x (33 : Nat))), DV.v (Value.int IntKind.i64 (Tm.I x (34 : Nat))), DV.sl false (fun a a_1 => DV.v (Value.bool (Tm.tb x a))) (1 : Nat) (Tm.tn x), DV.sl false (fun a a_1 => DV.sl (Tm.bT x a) (Row.cell (Tm.bR x a)) (5 : Nat) (Row.n (Tm.bR x a))) (1 : Nat) (Tm.bn x), DV.v (Value.int IntKind.i64 (Tm.I x (37 : Nat))), DV.v (Value.string (Tm.S x (38 : Nat))), DV.v (Value.string (Tm.S x (39 : Nat))), DV.v (Value.string (Tm.S x (40 : Nat))), DV.v (Value.string (Tm.S x (41 : Nat)))]] }]
    else K Ex.normal (131 : Nat) [DV.po (0 : Nat) (0 : Nat) (0 : Nat), DV.v (Value.int IntKind.i64 (IntKind.wrap IntKind.i64 ((↑i : Int) + (1 : Int))))] [DV.any] [some { k := (42 : Nat), c := DC.lst [[DV.v (Value.int IntKind.i64 (Tm.I x (0 : Nat))), DV.v (Value.int IntKind.i64 (Tm.I x (1 : Nat))), DV.sl false (fun a a_1 => DV.sl (Tm.gT x a) (Row.cell (Tm.gR x a)) (5 : Nat) (Row.n (Tm.gR x a))) (1 : Nat) (Tm.gn x), DV.v (Value.int IntKind.i64 (Tm.I x (3 : Nat))), DV.v (Value.int IntKind.i64 (Tm.I x (4 : Nat))), DV.sl false (fun a a_1 => DV.sl (Tm.oT x a) (Row.cell (Tm.oR x a)) (5 : Nat) (Row.n (Tm.oR x a))) (1 : Nat) (Tm.on x), DV.v (Value.int IntKind.i64 (Tm.I x (6 : Nat))), DV.v (Value.int IntKind.i64 (Tm.I x (7 : Nat))), DV.v (Value.bool (Tm.B x (8 : Nat))), DV.v (Value.int IntKind.i64 (Tm.I x (9 : Nat))), DV.v (Value.int IntKind.i64 (Tm.I x (10 : Nat))), DV.v (Value.bool (Tm.B x (11 : Nat))), DV.v (Value.int IntKind.i64 (Tm.I x (12 : Nat))), DV.v (Value.int IntKind.i64 (Tm.I x (13 : Nat))), DV.v (Value.int IntKind.i64 (Tm.I x (14 : Nat))), DV.v (Value.bool (Tm.B x (15 : Nat))), DV.v (Value.int IntKind.u8 (Tm.I x (16 : Nat))), DV.v (Value.int IntKind.u8 (Tm.I x (17 : Nat))), DV.v (Value.int IntKind.i64 (Tm.I x (18 : Nat))), DV.v (Value.int IntKind.i64 (Tm.I x (19 : Nat))), DV.v (Value.int IntKind.i64 (Tm.I x (20 : Nat))), DV.v (Value.int IntKind.i64 (Tm.I x (21 : Nat))), DV.v (Value.bool (Tm.B x (22 : Nat))), DV.v (Value.bool (Tm.B x (23 : Nat))), DV.v (Value.bool (Tm.B x (24 : Nat))), DV.v (Value.bool (Tm.B x (25 : Nat))), DV.v (Value.bool (Tm.B x (26 : Nat))), DV.v (Value.bool (Tm.B x (27 : Nat))), DV.v (Value.bool (Tm.B x (28 : Nat))), DV.v (Value.bool (Tm.B x (29 : Nat))), DV.v (Value.int IntKind.u8 (Tm.I x (30 : Nat))), DV.v (Value.int IntKind.u8 (Tm.I x (31 : Nat))), DV.v (Value.int IntKind.i64 (Tm.I x (32 : Nat))), DV.v (Value.int IntKind.i64 (Tm.I x (33 : Nat))), DV.v (Value.int IntKind.i64 (Tm.I x (34 : Nat))), DV.sl false (fun a a_1 => DV.v (Value.bool (Tm.tb x a))) (1 : Nat) (Tm.tn x), DV.sl false (fun a a_1 => DV.sl (Tm.bT x a) (Row.cell (Tm.bR x a)) (5 : Nat) (Row.n (Tm.bR x a))) (1 : Nat) (Tm.bn x), DV.v (Value.int IntKind.i64 (Tm.I x (37 : Nat))), DV.v (Value.string (Tm.S x (38 : Nat))), DV.v (Value.string (Tm.S x (39 : Nat))), DV.v (Value.string (Tm.S x (40 : Nat))), DV.v (Value.string (Tm.S x (41 : Nat)))]] }]
    else none else none else none else K (Ex.exit (0 : Nat)) (131 : Nat) [DV.po (0 : Nat) (0 : Nat) (0 : Nat), DV.v (Value.int IntKind.i64 (↑i : Int))] [DV.any] [some { k := (42 : Nat), c := DC.lst [[DV.v (Value.int IntKind.i64 (Tm.I x (0 : Nat))), DV.v (Value.int IntKind.i64 (Tm.I x (1 : Nat))), DV.sl false (fun a a_1 => DV.sl (Tm.gT x a) (Row.cell (Tm.gR x a)) (5 : Nat) (Row.n (Tm.gR x a))) (1 : Nat) (Tm.gn x), DV.v (Value.int IntKind.i64 (Tm.I x (3 : Nat))), DV.v (Value.int IntKind.i64 (Tm.I x (4 : Nat))), DV.sl false (fun a a_1 => DV.sl (Tm.oT x a) (Row.cell (Tm.oR x a)) (5 : Nat) (Row.n (Tm.oR x a))) (1 : Nat) (Tm.on x), DV.v (Value.int IntKind.i64 (Tm.I x (6 : Nat))), DV.v (Value.int IntKind.i64 (Tm.I x (7 : Nat))), DV.v (Value.bool (Tm.B x (8 : Nat))), DV.v (Value.int IntKind.i64 (Tm.I x (9 : Nat))), DV.v (Value.int IntKind.i64 (Tm.I x (10 : Nat))), DV.v (Value.bool (Tm.B x (11 : Nat))), DV.v (Value.int IntKind.i64 (Tm.I x (12 : Nat))), DV.v (Value.int IntKind.i64 (Tm.I x (13 : Nat))), DV.v (Value.int IntKind.i64 (Tm.I x (14 : Nat))), DV.v (Value.bool (Tm.B x (15 : Nat))), DV.v (Value.int IntKind.u8 (Tm.I x (16 : Nat))), DV.v (Value.int IntKind.u8 (Tm.I x (17 : Nat))), DV.v (Value.int IntKind.i64 (Tm.I x (18 : Nat))), DV.v (Value.int IntKind.i64 (Tm.I x (19 : Nat))), DV.v (Value.int IntKind.i64 (Tm.I x (20 : Nat))), DV.v (Value.int IntKind.i64 (Tm.I x (21 : Nat))), DV.v (Value.bool (Tm.B x (22 : Nat))), DV.v (Value.bool (Tm.B x (23 : Nat))), DV.v (Value.bool (Tm.B x (24 : Nat))), DV.v (Value.bool (Tm.B x (25 : Nat))), DV.v (Value.bool (Tm.B x (26 : Nat))), DV.v (Value.bool (Tm.B x (27 : Nat))), DV.v (Value.bool (Tm.B x (28 : Nat))), DV.v (Value.bool (Tm.B x (29 : Nat))), DV.v (Value.int IntKind.u8 (Tm.I x (30 : Nat))), DV.v (Value.int IntKind.u8 (Tm.I x (31 : Nat))), DV.v (Value.int IntKind.i64 (Tm.I x (32 : Nat))), DV.v (Value.int IntKind.i64 (Tm.I x (33 : Nat))), DV.v (Value.int IntKind.i64 (Tm.I x (34 : Nat))), DV.sl false (fun a a_1 => DV.v (Value.bool (Tm.tb x a))) (1 : Nat) (Tm.tn x), DV.sl false (fun a a_1 => DV.sl (Tm.bT x a) (Row.cell (Tm.bR x a)) (5 : Nat) (Row.n (Tm.bR x a))) (1 : Nat) (Tm.bn x), DV.v (Value.int IntKind.i64 (Tm.I x (37 : Nat))), DV.v (Value.string (Tm.S x (38 : Nat))), DV.v (Value.string (Tm.S x (39 : Nat))), DV.v (Value.string (Tm.S x (40 : Nat))), DV.v (Value.string (Tm.S x (41 : Nat)))]] }] := by
  kernel_rfl
theorem pp_ls {st : AE.Stat} (hx : ∀ f, f ≠ 5 → f ≠ 22 → ∀ a σ, st.ext f a σ = none) (x : Tm) (hok : x.ok) : LoopS Tryz.prog st gl0 (.loop (loopAt Tryz.f10 506)) (ppI x).g := by
  refine (ppI x).ok (E := env [(28, rcC check7)] noLp 0) (p := 500) (tblD_env (l := [(28, rcC check7)]) (fun x h => ?_)) (glOk st).1 (fun _ _ _ h => nomatch h) (fun i k h => b_cps h) fun i hi => ?_
  · simp only [List.mem_cons, List.not_mem_nil, or_false] at h
    subst h
    exact rcC_ok hx
  have hi : i ≤ x.bn := hi
  obtain ⟨hn, hR⟩ := hok.2.2.1
  refine (pp_loop check7 x i _).trans ?_
  simp only [Int.toNat_natCast, Nat.add_zero]
  refine dS (fun hlt => ?_) fun hge => ?_
  · have hlt : i < x.bn := by omega
    have e : x.bn - i = (x.bn - (i + 1)) + 1 := by omega
    have hW : IntKind.i64.wrap ((i : Int) + 1) = ((i + 1 : Nat) : Int) := by rw [W_in (by omega) (by omega)]; omega
    rw [hW]
    have hq : backF x.bR (x.bn - i) i = bif check7 (x.bR i) != 0 then false else backF x.bR (x.bn - (i + 1)) (i + 1) := by rw [e, backF]
    refine dT (by omega) (dT hlt (hT (Row.ok (hR i hlt)) (cS (fun h2 => ?_) fun h2 => ?_)))
    · have h2 : (check7 (x.bR i) != 0) = true := h2
      rw [h2, cond_true] at hq
      refine LInv.ask_of ⟨rfl, ?_, [], ?_⟩
      · simp only [ppI]; rw [hq]; rfl
      · simp only [ppI]; rw [hq]; exact wkN (.cons (.v _) .nil)
    · have h2 : (check7 (x.bR i) != 0) = false := h2
      rw [h2, cond_false] at hq
      refine LInv.ask_of ⟨rfl, i + 1, ⟨?_, ?_, rfl, hlt⟩, ?_, [], wkS x.clo (.cons (.po rfl) (.cons (.v _) .nil))⟩
      · simp only [ppI]; rw [hq]
      · simp only [ppI]; rw [hq]
      · simp only [ppI]; omega
  · have hr : backF x.bR (x.bn - i) i = true := by
      have : x.bn - i = 0 := by omega
      rw [this, backF]
    refine LInv.ask_of ⟨rfl, ?_, [], ?_⟩
    · simp only [ppI]; rw [hr]; rfl
    · simp only [ppI]; rw [hr]; exact wkN (.cons (.any _) .nil)
theorem ins_tree (r c : Int) (p : Bool) (w h : Int) (t : Bool) (G : Nat → Nat → DV) (n : Nat) (k : DV → Option Unit) : bodyD Tryz.prog (env [] noLp 0) Tryz.f24 [.agg [iv r, iv c, bv p], .agg [iv w, iv h, .sl t G 1 n]] [] (fun d _ => k d) =
    bif decide (r ≥ (0 : Int)) then bif decide (r < h) then bif decide (c ≥ (0 : Int)) then bif decide (c < w) then bif !p then k (DV.v (Value.bool true)) else k (DV.v (Value.bool (c == IntKind.wrap IntKind.i64 (w - (1 : Int)))))
    else k (DV.v (Value.bool false)) else k (DV.v (Value.bool false)) else k (DV.v (Value.bool false)) else k (DV.v (Value.bool false)) := by
  kernel_rfl
theorem rgt_tree (a b c : Int) (k : DV → Option Unit) : bodyD Tryz.prog (env [] noLp 0) Tryz.f25 [.agg [iv a, iv b, iv c]] [] (fun d _ => k d) =
    bif decide (a < (-1 : Int)) then k (DV.v (Value.int IntKind.i64 (0 : Int))) else bif decide (a > (255 : Int)) then k (DV.v (Value.int IntKind.i64 (0 : Int))) else bif decide (b < (-1 : Int)) then k (DV.v (Value.int IntKind.i64 (0 : Int)))
    else bif decide (b > (255 : Int)) then k (DV.v (Value.int IntKind.i64 (0 : Int))) else bif decide (c < (0 : Int)) then k (DV.v (Value.int IntKind.i64 (0 : Int))) else bif decide (c > (255 : Int)) then k (DV.v (Value.int IntKind.i64 (0 : Int)))
    else k (DV.v (Value.int IntKind.i64 (1 : Int))) := by
  kernel_rfl
theorem set_tree (a b c : Int) (k : DV → Option Unit) : bodyD Tryz.prog (env [] noLp 0) Tryz.f26 [.agg [kv .u8 a, kv .u8 b], iv c] [] (fun d _ => k d) =
    bif a == (66 : Int) then bif b == (66 : Int) then bif c == (0 : Int) then k (DV.v (Value.bool true)) else k (DV.v (Value.bool (c == (1 : Int)))) else bif b == (48 : Int) then bif c == (0 : Int) then k (DV.v (Value.bool true))
    else k (DV.v (Value.bool (c == (1 : Int)))) else k (DV.v (Value.bool false)) else bif a == (48 : Int) then bif b == (66 : Int) then bif c == (0 : Int) then k (DV.v (Value.bool true)) else k (DV.v (Value.bool (c == (1 : Int))))
    else bif b == (48 : Int) then bif c == (0 : Int) then k (DV.v (Value.bool true)) else k (DV.v (Value.bool (c == (1 : Int)))) else k (DV.v (Value.bool false)) else k (DV.v (Value.bool false)) := by
  kernel_rfl
def insF (r c : Int) (p : Bool) (w h : Int) : Bool := decide (r ≥ 0) && decide (r < h) && decide (c ≥ 0) && decide (c < w) && (!p || c == IntKind.i64.wrap (w - 1))
def rgtF (a b c : Int) : Int := bif decide (a < -1) || decide (a > 255) || decide (b < -1) || decide (b > 255) || decide (c < 0) || decide (c > 255) then 0 else 1
def setF (a b c : Int) : Bool := (a == 66 || a == 48) && (b == 66 || b == 48) && (c == 0 || c == 1)
theorem ins_true (r c : Int) (p : Bool) (w h : Int) (t : Bool) (G : Nat → Nat → DV) (n : Nat) : bodyD Tryz.prog (env [] noLp 0) Tryz.f24 [.agg [iv r, iv c, bv p], .agg [iv w, iv h, .sl t G 1 n]] [] (fun d _ => isD (bv (insF r c p w h)) d) = some () := by
  refine (ins_tree r c p w h t G n _).trans ?_
  unfold insF
  repeat' (first | exact isD_of (by simp [*]) | refine dS (fun h => ?_) (fun h => ?_) | refine cS (fun h => ?_) (fun h => ?_))
theorem rgt_true (a b c : Int) : bodyD Tryz.prog (env [] noLp 0) Tryz.f25 [.agg [iv a, iv b, iv c]] [] (fun d _ => isD (iv (rgtF a b c)) d) = some () := by
  refine (rgt_tree a b c _).trans ?_
  unfold rgtF
  repeat' (first | exact isD_of (by simp [*]) | refine dS (fun h => ?_) (fun h => ?_) | refine cS (fun h => ?_) (fun h => ?_))
theorem set_true (a b c : Int) : bodyD Tryz.prog (env [] noLp 0) Tryz.f26 [.agg [kv .u8 a, kv .u8 b], iv c] [] (fun d _ => isD (bv (setF a b c)) d) = some () := by
  refine (set_tree a b c _).trans ?_
  unfold setF
  repeat' (first | exact isD_of (by simp [*]) | refine dS (fun h => ?_) (fun h => ?_) | refine cS (fun h => ?_) (fun h => ?_))
noncomputable def isC (F : Int → Int → Bool → Int → Int → Bool) : ConF := fun args k => match args with
  | [.agg [.v (.int .i64 r), .v (.int .i64 c), .v (.bool p)], .agg [.v (.int .i64 w), .v (.int .i64 h), .sl _ _ 1 _]] => k (fun _ => (bv (F r c p w h), []))
  | _ => none
noncomputable def riC (F : Int → Int → Int → Int) : ConF := fun args k => match args with
  | [.agg [.v (.int .i64 a), .v (.int .i64 b), .v (.int .i64 c)]] => k (fun _ => (iv (F a b c), []))
  | _ => none
noncomputable def seC (F : Int → Int → Int → Bool) : ConF := fun args k => match args with
  | [.agg [.v (.int .u8 a), .v (.int .u8 b)], .v (.int .i64 c)] => k (fun _ => (bv (F a b c), []))
  | _ => none
theorem isC_ok {st : AE.Stat} (hx : ∀ f, f ≠ 5 → f ≠ 22 → ∀ a σ, st.ext f a σ = none) : ConOk Tryz.prog st 24 (isC insF) := by
  refine con_flat (mg := []) (l := []) (lp := noLp) (n := 0) (glOk st) (fun _ h => nomatch h) Tryz.func24 (by kernel_rfl) (by kernel_rfl) (hx 24 (by decide) (by decide)) (fun _ _ _ h => nomatch h) fun args k hk => ?_
  unfold isC at hk
  split at hk <;> first | (cases hk; done) | skip
  exact ⟨_, _, .self (.self .nil), v_clo _, hk, ins_true _ _ _ _ _ _ _ _⟩
theorem riC_ok {st : AE.Stat} (hx : ∀ f, f ≠ 5 → f ≠ 22 → ∀ a σ, st.ext f a σ = none) : ConOk Tryz.prog st 25 (riC rgtF) := by
  refine con_flat (mg := []) (l := []) (lp := noLp) (n := 0) (glOk st) (fun _ h => nomatch h) Tryz.func25 (by kernel_rfl) (by kernel_rfl) (hx 25 (by decide) (by decide)) (fun _ _ _ h => nomatch h) fun args k hk => ?_
  unfold riC at hk
  split at hk <;> first | (cases hk; done) | skip
  exact ⟨_, _, .self .nil, v_clo _, hk, rgt_true _ _ _⟩
theorem seC_ok {st : AE.Stat} (hx : ∀ f, f ≠ 5 → f ≠ 22 → ∀ a σ, st.ext f a σ = none) : ConOk Tryz.prog st 26 (seC setF) := by
  refine con_flat (mg := []) (l := []) (lp := noLp) (n := 0) (glOk st) (fun _ h => nomatch h) Tryz.func26 (by kernel_rfl) (by kernel_rfl) (hx 26 (by decide) (by decide)) (fun _ _ _ h => nomatch h) fun args k hk => ?_
  unfold seC at hk
  split at hk <;> first | (cases hk; done) | skip
  exact ⟨_, _, .self (.self .nil), v_clo _, hk, set_true _ _ _⟩
end Go.Proofs.YtabchbchopgnfaaGreatDoor
