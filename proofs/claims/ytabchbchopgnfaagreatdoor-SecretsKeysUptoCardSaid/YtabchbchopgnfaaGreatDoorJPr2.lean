/-
  The contracts of the reference's Proper and Great, for one terminal (their bodies).
  Conditions: none beyond those of the contracts.
-/
import Derived.Test.YtabchbchopgnfaaGreatDoorJProp
namespace Go.Proofs.YtabchbchopgnfaaGreatDoor
open Go Go.AE Go.DE Go.RowKit

noncomputable abbrev prL (A : Int → Int → (Nat → Row) → Nat → Int) (N : Int → Int → Bool → Int → Int → Bool) (Q : Int → Int → Int → Int) (U : Int → Int → Int → Bool) (V : ByteArray → Bool) : List (FuncId × ConF) := [(23, gcC A), (24, isC N), (25, riC Q), (26, seC U), (27, vaG V)]
theorem pp_tree (A : Int → Int → (Nat → Row) → Nat → Int) (N : Int → Int → Bool → Int → Int → Bool) (Q : Int → Int → Int → Int) (U : Int → Int → Int → Bool) (V : ByteArray → Bool) (x : Tm) (k : DV → Option Unit) : bodyD Tryz.prog (env (prL A N Q U V) (lpOf [(506, (ppI x).g)]) 0) Tryz.f10 [.agg x.cells] [] (fun d _ => k d) =
    bif holds (Nat.le (Tm.gn x) (9000000 : Nat) ∧ ∀ (i : Nat), i < Tm.gn x → DV.sl (Tm.gT x i) (Row.cell (Tm.gR x i)) (5 : Nat) (Row.n (Tm.gR x i)) = DV.sl (slT (DV.sl (Tm.gT x i) (Row.cell (Tm.gR x i)) (5 : Nat) (Row.n (Tm.gR x i)))) (slG (DV.sl (Tm.gT x i) (Row.cell (Tm.gR x i)) (5 : Nat) (Row.n (Tm.gR x i)))) (5 : Nat) (slN (DV.sl (Tm.gT x i) (Row.cell (Tm.gR x i)) (5 : Nat) (Row.n (Tm.gR x i)))) ∧ Nat.le (slN (DV.sl (Tm.gT x i) (Row.cell (Tm.gR x i)) (5 : Nat) (Row.n (Tm.gR x i)))) (9000000 : Nat) ∧ ∀ (i_1 : Nat), i_1 < slN (DV.sl (Tm.gT x i) (Row.cell (Tm.gR x i)) (5 : Nat) (Row.n (Tm.gR x i))) → DV.v (Value.string (Row.tx (Tm.gR x i) i_1)) = DV.v (Value.string (strD (DV.v (Value.string (Row.tx (Tm.gR x i) i_1))))) ∧ Nat.le (ByteArray.size (strD (DV.v (Value.string (Row.tx (Tm.gR x i) i_1))))) (9000000 : Nat) ∧ DV.v (Value.int IntKind.i64 (Row.wd (Tm.gR x i) i_1)) = DV.v (Value.int IntKind.i64 (numD (DV.v (Value.int IntKind.i64 (Row.wd (Tm.gR x i) i_1))))) ∧ DV.v (Value.int IntKind.i64 (Row.fo (Tm.gR x i) i_1)) = DV.v (Value.int IntKind.i64 (numD (DV.v (Value.int IntKind.i64 (Row.fo (Tm.gR x i) i_1))))) ∧ DV.v (Value.int IntKind.i64 (Row.ba (Tm.gR x i) i_1)) = DV.v (Value.int IntKind.i64 (numD (DV.v (Value.int IntKind.i64 (Row.ba (Tm.gR x i) i_1))))) ∧ DV.v (Value.int IntKind.i64 (Row.fl (Tm.gR x i) i_1)) = DV.v (Value.int IntKind.i64 (numD (DV.v (Value.int IntKind.i64 (Row.fl (Tm.gR x i) i_1))))))
    then bif A (Tm.I x (0 : Nat)) (Tm.I x (1 : Nat)) (fun i => { n := slN (DV.sl (Tm.gT x i) (Row.cell (Tm.gR x i)) (5 : Nat) (Row.n (Tm.gR x i))), tx := fun j => strD (DV.v (Value.string (Row.tx (Tm.gR x i) j))), wd := fun j => numD (DV.v (Value.int IntKind.i64 (Row.wd (Tm.gR x i) j))), fo := fun j => numD (DV.v (Value.int IntKind.i64 (Row.fo (Tm.gR x i) j))), ba := fun j => numD (DV.v (Value.int IntKind.i64 (Row.ba (Tm.gR x i) j))), fl := fun j => numD (DV.v (Value.int IntKind.i64 (Row.fl (Tm.gR x i) j))) }) (Tm.gn x) != (0 : Int)
    then k (DV.v (Value.bool false)) else bif holds (Nat.le (Tm.on x) (9000000 : Nat) ∧ ∀ (i : Nat), i < Tm.on x → DV.sl (Tm.oT x i) (Row.cell (Tm.oR x i)) (5 : Nat) (Row.n (Tm.oR x i)) = DV.sl (slT (DV.sl (Tm.oT x i) (Row.cell (Tm.oR x i)) (5 : Nat) (Row.n (Tm.oR x i)))) (slG (DV.sl (Tm.oT x i) (Row.cell (Tm.oR x i)) (5 : Nat) (Row.n (Tm.oR x i)))) (5 : Nat) (slN (DV.sl (Tm.oT x i) (Row.cell (Tm.oR x i)) (5 : Nat) (Row.n (Tm.oR x i)))) ∧ Nat.le (slN (DV.sl (Tm.oT x i) (Row.cell (Tm.oR x i)) (5 : Nat) (Row.n (Tm.oR x i)))) (9000000 : Nat) ∧ ∀ (i_1 : Nat), i_1 < slN (DV.sl (Tm.oT x i) (Row.cell (Tm.oR x i)) (5 : Nat) (Row.n (Tm.oR x i))) → DV.v (Value.string (Row.tx (Tm.oR x i) i_1)) = DV.v (Value.string (strD (DV.v (Value.string (Row.tx (Tm.oR x i) i_1))))) ∧ Nat.le (ByteArray.size (strD (DV.v (Value.string (Row.tx (Tm.oR x i) i_1))))) (9000000 : Nat) ∧ DV.v (Value.int IntKind.i64 (Row.wd (Tm.oR x i) i_1)) = DV.v (Value.int IntKind.i64 (numD (DV.v (Value.int IntKind.i64 (Row.wd (Tm.oR x i) i_1))))) ∧ DV.v (Value.int IntKind.i64 (Row.fo (Tm.oR x i) i_1)) = DV.v (Value.int IntKind.i64 (numD (DV.v (Value.int IntKind.i64 (Row.fo (Tm.oR x i) i_1))))) ∧ DV.v (Value.int IntKind.i64 (Row.ba (Tm.oR x i) i_1)) = DV.v (Value.int IntKind.i64 (numD (DV.v (Value.int IntKind.i64 (Row.ba (Tm.oR x i) i_1))))) ∧ DV.v (Value.int IntKind.i64 (Row.fl (Tm.oR x i) i_1)) = DV.v (Value.int IntKind.i64 (numD (DV.v (Value.int IntKind.i64 (Row.fl (Tm.oR x i) i_1))))))
    then bif A (Tm.I x (3 : Nat)) (Tm.I x (4 : Nat)) (fun i => { n := slN (DV.sl (Tm.oT x i) (Row.cell (Tm.oR x i)) (5 : Nat) (Row.n (Tm.oR x i))), tx := fun j => strD (DV.v (Value.string (Row.tx (Tm.oR x i) j))), wd := fun j => numD (DV.v (Value.int IntKind.i64 (Row.wd (Tm.oR x i) j))), fo := fun j => numD (DV.v (Value.int IntKind.i64 (Row.fo (Tm.oR x i) j))), ba := fun j => numD (DV.v (Value.int IntKind.i64 (Row.ba (Tm.oR x i) j))), fl := fun j => numD (DV.v (Value.int IntKind.i64 (Row.fl (Tm.oR x i) j))) }) (Tm.on x) != (0 : Int)
    then k (DV.v (Value.bool false)) else bif Tm.I x (0 : Nat) != Tm.I x (3 : Nat) then k (DV.v (Value.bool false)) else bif Tm.I x (1 : Nat) != Tm.I x (4 : Nat) then k (DV.v (Value.bool false)) else bif !N (Tm.I x (6 : Nat)) (Tm.I x (7 : Nat)) (Tm.B x (8 : Nat)) (Tm.I x (0 : Nat)) (Tm.I x (1 : Nat))
    then k (DV.v (Value.bool false)) else bif !N (Tm.I x (9 : Nat)) (Tm.I x (10 : Nat)) (Tm.B x (11 : Nat)) (Tm.I x (0 : Nat)) (Tm.I x (1 : Nat)) then k (DV.v (Value.bool false)) else bif Q (Tm.I x (19 : Nat)) (Tm.I x (20 : Nat)) (Tm.I x (21 : Nat)) == (0 : Int)
    then k (DV.v (Value.bool false)) else bif Q (Tm.I x (12 : Nat)) (Tm.I x (13 : Nat)) (Tm.I x (14 : Nat)) == (0 : Int) then k (DV.v (Value.bool false)) else bif !U (Tm.I x (30 : Nat)) (Tm.I x (31 : Nat)) (Tm.I x (32 : Nat))
    then k (DV.v (Value.bool false)) else bif !U (Tm.I x (16 : Nat)) (Tm.I x (17 : Nat)) (Tm.I x (18 : Nat)) then k (DV.v (Value.bool false)) else bif decide (Tm.I x (33 : Nat) < (0 : Int)) then k (DV.v (Value.bool false))
    else bif decide (Tm.I x (33 : Nat) ≥ Tm.I x (34 : Nat)) then k (DV.v (Value.bool false)) else bif decide (Tm.I x (34 : Nat) > Tm.I x (1 : Nat)) then k (DV.v (Value.bool false)) else bif (↑(Tm.tn x) : Int) != Tm.I x (0 : Nat)
    then k (DV.v (Value.bool false)) else bif decide ((↑(Tm.bn x) : Int) > (500 : Int)) then k (DV.v (Value.bool false)) else bif decide (ByteArray.size (Tm.S x (40 : Nat)) ≤ (9000000 : Nat)) then bif !V (Tm.S x (40 : Nat))
    then k (DV.v (Value.bool false)) else bif holds (Nat.le (0 : Nat) (Tm.bn x) ∧ ∃ ids, WkP (LInv.m (ppI x)) ids [DV.po (0 : Nat) (0 : Nat) (0 : Nat), DV.v (Value.int IntKind.i64 (0 : Int))] [some { k := (42 : Nat), c := DC.lst [[DV.v (Value.int IntKind.i64 (Tm.I x (0 : Nat))), DV.v (Value.int IntKind.i64 (Tm.I x (1 : Nat))), DV.sl false (fun a a_1 => DV.sl (Tm.gT x a) (Row.cell (Tm.gR x a)) (5 : Nat) (Row.n (Tm.gR x a))) (1 : Nat) (Tm.gn x), DV.v (Value.int IntKind.i64 (Tm.I x (3 : Nat))), DV.v (Value.int IntKind.i64 (Tm.I x (4 : Nat))), DV.sl false (fun a a_1 => DV.sl (Tm.oT x a) (Row.cell (Tm.oR x a)) (5 : Nat) (Row.n (Tm.oR x a))) (1 : Nat) (Tm.on x), DV.v (Value.int IntKind.i64 (Tm.I x (6 : Nat))), DV.v (Value.int IntKind.i64 (Tm.I x (7 : Nat))), DV.v (Value.bool (Tm.B x (8 : Nat))), DV.v (Value.int IntKind.i64 (Tm.I x (9 : Nat))), DV.v (Value.int IntKind.i64 (Tm.I x (10 : Nat))), DV.v (Value.bool (Tm.B x (11 : Nat))), DV.v (Value.int IntKind.i64 (Tm.I x (12 : Nat))), DV.v (Value.int IntKind.i64 (Tm.I x (13 : Nat))), DV.v (Value.int IntKind.i64 (Tm.I x (14 : Nat))), DV.v (Value.bool (Tm.B x (15 : Nat))), DV.v (Value.int IntKind.u8 (Tm.I x (16 : Nat))), DV.v (Value.int IntKind.u8 (Tm.I x (17 : Nat))), DV.v (Value.int IntKind.i64 (Tm.I x (18 : Nat))), DV.v (Value.int IntKind.i64 (Tm.I x (19 : Nat))), DV.v (Value.int IntKind.i64 (Tm.I x (20 : Nat))), DV.v (Value.int IntKind.i64 (Tm.I x (21 : Nat))), DV.v (Value.bool (Tm.B x (22 : Nat))), DV.v (Value.bool (Tm.B x (23 : Nat))), DV.v (Value.bool (Tm.B x (24 : Nat))), DV.v (Value.bool (Tm.B x (25 : Nat))), DV.v (Value.bool (Tm.B x (26 : Nat))), DV.v (Value.bool (Tm.B x (27 : Nat))), DV.v (Value.bool (Tm.B x (28 : Nat))), DV.v (Value.bool (Tm.B x (29 : Nat))), DV.v (Value.int IntKind.u8 (Tm.I x (30 : Nat))), DV.v (Value.int IntKind.u8 (Tm.I x (31 : Nat))), DV.v (Value.int IntKind.i64 (Tm.I x (32 : Nat))), DV.v (Value.int IntKind.i64 (Tm.I x (33 : Nat))), DV.v (Value.int IntKind.i64 (Tm.I x (34 : Nat))), DV.sl false (fun a a_1 => DV.v (Value.bool (Tm.tb x a))) (1 : Nat) (Tm.tn x), DV.sl false (fun a a_1 => DV.sl (Tm.bT x a) (Row.cell (Tm.bR x a)) (5 : Nat) (Row.n (Tm.bR x a))) (1 : Nat) (Tm.bn x), DV.v (Value.int IntKind.i64 (Tm.I x (37 : Nat))), DV.v (Value.string (Tm.S x (38 : Nat))), DV.v (Value.string (Tm.S x (39 : Nat))), DV.v (Value.string (Tm.S x (40 : Nat))), DV.v (Value.string (Tm.S x (41 : Nat)))]] }] [DV.po (0 : Nat) (0 : Nat) (0 : Nat), DV.v (Value.int IntKind.i64 (0 : Int))] [some { k := (42 : Nat), c := DC.lst [[DV.v (Value.int IntKind.i64 (Tm.I x (0 : Nat))), DV.v (Value.int IntKind.i64 (Tm.I x (1 : Nat))), DV.sl false (fun a a_1 => DV.sl (Tm.gT x a) (Row.cell (Tm.gR x a)) (5 : Nat) (Row.n (Tm.gR x a))) (1 : Nat) (Tm.gn x), DV.v (Value.int IntKind.i64 (Tm.I x (3 : Nat))), DV.v (Value.int IntKind.i64 (Tm.I x (4 : Nat))), DV.sl false (fun a a_1 => DV.sl (Tm.oT x a) (Row.cell (Tm.oR x a)) (5 : Nat) (Row.n (Tm.oR x a))) (1 : Nat) (Tm.on x), DV.v (Value.int IntKind.i64 (Tm.I x (6 : Nat))), DV.v (Value.int IntKind.i64 (Tm.I x (7 : Nat))), DV.v (Value.bool (Tm.B x (8 : Nat))), DV.v (Value.int IntKind.i64 (Tm.I x (9 : Nat))), DV.v (Value.int IntKind.i64 (Tm.I x (10 : Nat))), DV.v (Value.bool (Tm.B x (11 : Nat))), DV.v (Value.int IntKind.i64 (Tm.I x (12 : Nat))), DV.v (Value.int IntKind.i64 (Tm.I x (13 : Nat))), DV.v (Value.int IntKind.i64 (Tm.I x (14 : Nat))), DV.v (Value.bool (Tm.B x (15 : Nat))), DV.v (Value.int IntKind.u8 (Tm.I x (16 : Nat))), DV.v (Value.int IntKind.u8 (Tm.I x (17 : Nat))), DV.v (Value.int IntKind.i64 (Tm.I x (18 : Nat))), DV.v (Value.int IntKind.i64 (Tm.I x (19 : Nat))), DV.v (Value.int IntKind.i64 (Tm.I x (20 : Nat))), DV.v (Value.int IntKind.i64 (Tm.I x (21 : Nat))), DV.v (Value.bool (Tm.B x (22 : Nat))), DV.v (Value.bool (Tm.B x (23 : Nat))), DV.v (Value.bool (Tm.B x (24 : Nat))), DV.v (Value.bool (Tm.B x (25 : Nat))), DV.v (Value.bool (Tm.B x (26 : Nat))), DV.v (Value.bool (Tm.B x (27 : Nat))), DV.v (Value.bool (Tm.B x (28 : Nat))), DV.v (Value.bool (Tm.B x (29 : Nat))), DV.v (Value.int IntKind.u8 (Tm.I x (30 : Nat))), DV.v (Value.int IntKind.u8 (Tm.I x (31 : Nat))), DV.v (Value.int IntKind.i64 (Tm.I x (32 : Nat))), DV.v (Value.int IntKind.i64 (Tm.I x (33 : Nat))), DV.v (Value.int IntKind.i64 (Tm.I x (34 : Nat))), DV.sl false (fun a a_1 => DV.v (Value.bool (Tm.tb x a))) (1 : Nat) (Tm.tn x), DV.sl false (fun a a_1 => DV.sl (Tm.bT x a) (Row.cell (Tm.bR x a)) (5 : Nat) (Row.n (Tm.bR x a))) (1 : Nat) (Tm.bn x), DV.v (Value.int IntKind.i64 (Tm.I x (37 : Nat))), DV.v (Value.string (Tm.S x (38 : Nat))), DV.v (Value.string (Tm.S x (39 : Nat))), DV.v (Value.string (Tm.S x (40 : Nat))), DV.v (Value.string (Tm.S x (41 : Nat)))]] }])
    then bif holds (backF (Tm.bR x) (Tm.bn x - (0 : Nat)) (0 : Nat) = true) then k (DV.v (Value.bool true)) else k (DV.v (Value.bool false)) else none else none else none else none := by
  kernel_rfl
/-- The reference's test of a terminal. -/
def properF (x : Tm) : Bool :=

  bif check8 (x.I 0) (x.I 1) x.gR x.gn != 0 then false else
  bif check8 (x.I 3) (x.I 4) x.oR x.on != 0 then false else
  bif x.I 0 != x.I 3 then false else
  bif x.I 1 != x.I 4 then false else
  bif !insF (x.I 6) (x.I 7) (x.B 8) (x.I 0) (x.I 1) then false else
  bif !insF (x.I 9) (x.I 10) (x.B 11) (x.I 0) (x.I 1) then false else
  bif rgtF (x.I 19) (x.I 20) (x.I 21) == 0 then false else
  bif rgtF (x.I 12) (x.I 13) (x.I 14) == 0 then false else
  bif !setF (x.I 30) (x.I 31) (x.I 32) then false else
  bif !setF (x.I 16) (x.I 17) (x.I 18) then false else
  bif decide (x.I 33 < 0) then false else
  bif decide (x.I 33 ≥ x.I 34) then false else
  bif decide (x.I 34 > x.I 1) then false else
  bif (x.tn : Int) != x.I 0 then false else
  bif decide ((x.bn : Int) > 500) then false else
  bif !validF (x.S 40) then false else
  backF x.bR x.bn 0
theorem pp_true (x : Tm) (hok : x.ok) : bodyD Tryz.prog (env (prL check8 insF rgtF setF validF) (lpOf [(506, (ppI x).g)]) 0) Tryz.f10 [.agg x.cells] [] (fun d _ => isD (bv (properF x)) d) = some () := by
  refine (pp_tree check8 insF rgtF setF validF x _).trans ?_
  unfold properF
  refine hT ⟨hok.1.1, fun i hi => isRow_of (hok.1.2 i hi)⟩ ?_
  refine cS (fun h => isD_of ?_) fun h => ?_
  · have h : (check8 (x.I 0) (x.I 1) x.gR x.gn != 0) = true := h
    rw [h]; rfl
  have h0 : (check8 (x.I 0) (x.I 1) x.gR x.gn != 0) = false := h
  rw [h0, cond_false]
  clear h
  refine hT ⟨hok.2.1.1, fun i hi => isRow_of (hok.2.1.2 i hi)⟩ ?_
  refine cS (fun h => isD_of ?_) fun h => ?_
  · have h : (check8 (x.I 3) (x.I 4) x.oR x.on != 0) = true := h
    rw [h]; rfl
  have h1 : (check8 (x.I 3) (x.I 4) x.oR x.on != 0) = false := h
  rw [h1, cond_false]
  clear h
  refine cS (fun h => isD_of ?_) fun h => ?_
  · have h : (x.I 0 != x.I 3) = true := h
    rw [h]; rfl
  have h2 : (x.I 0 != x.I 3) = false := h
  rw [h2, cond_false]
  clear h
  refine cS (fun h => isD_of ?_) fun h => ?_
  · have h : (x.I 1 != x.I 4) = true := h
    rw [h]; rfl
  have h3 : (x.I 1 != x.I 4) = false := h
  rw [h3, cond_false]
  clear h
  refine cS (fun h => isD_of ?_) fun h => ?_
  · have h : (!insF (x.I 6) (x.I 7) (x.B 8) (x.I 0) (x.I 1)) = true := h
    rw [h]; rfl
  have h4 : (!insF (x.I 6) (x.I 7) (x.B 8) (x.I 0) (x.I 1)) = false := h
  rw [h4, cond_false]
  clear h
  refine cS (fun h => isD_of ?_) fun h => ?_
  · have h : (!insF (x.I 9) (x.I 10) (x.B 11) (x.I 0) (x.I 1)) = true := h
    rw [h]; rfl
  have h5 : (!insF (x.I 9) (x.I 10) (x.B 11) (x.I 0) (x.I 1)) = false := h
  rw [h5, cond_false]
  clear h
  refine cS (fun h => isD_of ?_) fun h => ?_
  · have h : (rgtF (x.I 19) (x.I 20) (x.I 21) == 0) = true := h
    rw [h]; rfl
  have h6 : (rgtF (x.I 19) (x.I 20) (x.I 21) == 0) = false := h
  rw [h6, cond_false]
  clear h
  refine cS (fun h => isD_of ?_) fun h => ?_
  · have h : (rgtF (x.I 12) (x.I 13) (x.I 14) == 0) = true := h
    rw [h]; rfl
  have h7 : (rgtF (x.I 12) (x.I 13) (x.I 14) == 0) = false := h
  rw [h7, cond_false]
  clear h
  refine cS (fun h => isD_of ?_) fun h => ?_
  · have h : (!setF (x.I 30) (x.I 31) (x.I 32)) = true := h
    rw [h]; rfl
  have h8 : (!setF (x.I 30) (x.I 31) (x.I 32)) = false := h
  rw [h8, cond_false]
  clear h
  refine cS (fun h => isD_of ?_) fun h => ?_
  · have h : (!setF (x.I 16) (x.I 17) (x.I 18)) = true := h
    rw [h]; rfl
  have h9 : (!setF (x.I 16) (x.I 17) (x.I 18)) = false := h
  rw [h9, cond_false]
  clear h
  refine dS (fun h => isD_of ?_) fun h10 => ?_
  · rw [decide_eq_true h]; rfl
  rw [decide_eq_false h10, cond_false]
  refine dS (fun h => isD_of ?_) fun h11 => ?_
  · rw [decide_eq_true h]; rfl
  rw [decide_eq_false h11, cond_false]
  refine dS (fun h => isD_of ?_) fun h12 => ?_
  · rw [decide_eq_true h]; rfl
  rw [decide_eq_false h12, cond_false]
  refine cS (fun h => isD_of ?_) fun h => ?_
  · have h : ((x.tn : Int) != x.I 0) = true := h
    rw [h]; rfl
  have h13 : ((x.tn : Int) != x.I 0) = false := h
  rw [h13, cond_false]
  clear h
  refine dS (fun h => isD_of ?_) fun h14 => ?_
  · rw [decide_eq_true h]; rfl
  rw [decide_eq_false h14, cond_false]
  refine dT hok.2.2.2.2.1 ?_
  refine cS (fun h => isD_of ?_) fun h => ?_
  · have h : (!validF (x.S 40)) = true := h
    rw [h]; rfl
  have h15 : (!validF (x.S 40)) = false := h
  rw [h15, cond_false]
  clear h
  refine hT ⟨Nat.zero_le _, [], wkS x.clo (.cons (.po rfl) (.cons (.v _) .nil))⟩ ?_
  cases hb : backF x.bR x.bn 0 with
  | true => exact hT rfl (isD_of rfl)
  | false => exact hF (by decide) (isD_of rfl)
/-! ### Great -/
def longF (R : Nat → Row) : Nat → Nat → Bool
  | 0, _ => true
  | m + 1, i => bif decide (((R i).n : Int) > 200) then false else longF R m (i + 1)
noncomputable def gtI (x : Tm) (R : Nat → Row) (n tv ex : Nat) : LInv Nat where
  pre i := i ≤ n
  m := 1
  n := 112
  ps := [1, tv]
  sd i := [.po 0 0 0, iv (i : Int)]
  sh _ := [some ⟨42, .lst [x.cells]⟩]
  meas i := n - i
  e i := match longF R (n - i) i with
    | true => .exit ex
    | false => .ret
  qs := [1, 2]
  od i := match longF R (n - i) i with
    | true => [.po 0 0 0, .any]
    | false => [.any, bv true]
  oh i := match longF R (n - i) i with
    | true => [some ⟨42, .lst [x.cells]⟩]
    | false => [none]
  guess _ _ := some 0
  cps i k := bif holds (longF R (n - i) i = true) then k (.exit ex) [.po 0 0 0, .any] [some ⟨42, .lst [x.cells]⟩] else k .ret [.any, bv true] [none]
theorem gt_cps {x : Tm} {R : Nat → Row} {n tv ex i : Nat} {k : Ex → List DV → DHeap → Option Unit} (h : (gtI x R n tv ex).cps i k = some ()) : k ((gtI x R n tv ex).e i) ((gtI x R n tv ex).od i) ((gtI x R n tv ex).oh i) = some () := by
  simp only [gtI] at h ⊢
  rcases bif_some h with ⟨h1, h2⟩ | ⟨h1, h2⟩
  · rw [holds_eq.1 h1]; exact h2
  · have h1 : longF R (n - i) i = false := by
      cases hb : longF R (n - i) i with
      | true => rw [hb, holds_eq.2 rfl] at h1; cases h1
      | false => rfl
    rw [h1]; exact h2
theorem gt_loop58 (x : Tm) (i : Nat) (K : Ex → Nat → List DV → List DV → DHeap → Option Unit) : execD Tryz.prog (env [] noLp 0) (loopAt Tryz.f9 58) 500 (temps 112 [1, 3] [.po 0 0 0, iv i]) [some ⟨42, .lst [x.cells]⟩] (fun e τ σ => K e τ.length (pick [1, 3] τ) (pick [1, 2] τ) σ) =
    bif decide ((↑i : Int) < (↑(Tm.bn x) : Int)) then bif decide ((↑i : Int) < (↑(Tm.bn x) : Int)) then bif decide (Int.toNat (↑i : Int) + (0 : Nat) < Tm.bn x) then bif decide ((↑(Row.n (Tm.bR x (Int.toNat (↑i : Int) + (0 : Nat)))) : Int) > (200 : Int))
    then K Ex.ret (112 : Nat) [DV.po (0 : Nat) (0 : Nat) (0 : Nat), DV.v (Value.int IntKind.i64 (↑i : Int))] [DV.po (0 : Nat) (0 : Nat) (0 : Nat), DV.v (Value.bool true)] [some { k := (42 : Nat), c := DC.lst [[DV.v (Value.int IntKind.i64 (Tm.I x (0 : Nat))), DV.v (Value.int IntKind.i64 (Tm.I x (1 : Nat))), DV.sl false (fun a a_1 => DV.sl (Tm.gT x a) (Row.cell (Tm.gR x a)) (5 : Nat) (Row.n (Tm.gR x a))) (1 : Nat) (Tm.gn x), DV.v (Value.int IntKind.i64 (Tm.I x (3 : Nat))), DV.v (Value.int IntKind.i64 (Tm.I x (4 : Nat))), DV.sl false (fun a a_1 => DV.sl (Tm.oT x a) (Row.cell (Tm.oR x a)) (5 : Nat) (Row.n (Tm.oR x a))) (1 : Nat) (Tm.on x), DV.v (Value.int IntKind.i64 (Tm.I x (6 : Nat))), DV.v (Value.int IntKind.i64 (Tm.I x (7 : Nat))), DV.v (Value.bool (Tm.B x (8 : Nat))), DV.v (Value.int IntKind.i64 (Tm.I x (9 : Nat))), DV.v (Value.int IntKind.i64 (Tm.I x (10 : Nat))), DV.v (Value.bool (Tm.B x (11 : Nat))), DV.v (Value.int IntKind.i64 (Tm.I x (12 : Nat))), DV.v (Value.int IntKind.i64 (Tm.I x (13 : Nat))), DV.v (Value.int IntKind.i64 (Tm.I x (14 : Nat))), DV.v (Value.bool (Tm.B x (15 : Nat))), DV.v (Value.int IntKind.u8 (Tm.I x (16 : Nat))), DV.v (Value.int IntKind.u8 (Tm.I x (17 : Nat))), DV.v (Value.int IntKind.i64 (Tm.I x (18 : Nat))), DV.v (Value.int IntKind.i64 (Tm.I x (19 : Nat))), DV.v (Value.int IntKind.i64 (Tm.I x (20 : Nat))), DV.v (Value.int IntKind.i64 (Tm.I x (21 : Nat))), DV.v (Value.bool (Tm.B x (22 : Nat))), DV.v (Value.bool (Tm.B x (23 : Nat))), DV.v (Value.bool (Tm.B x (24 : Nat))), DV.v (Value.bool (Tm.B x (25 : Nat))), DV.v (Value.bool (Tm.B x (26 : Nat))), DV.v (Value.bool (Tm.B x (27 : Nat))), DV.v (Value.bool (Tm.B x (28 : Nat))), DV.v (Value.bool (Tm.B x (29 : Nat))), DV.v (Value.int IntKind.u8 (Tm.I x (30 : Nat))), DV.v (Value.int IntKind.u8 (Tm.I x (31 : Nat))), DV.v (Value.int IntKind.i64 (Tm.I x (32 : Nat))), DV.v (Value.int IntKind.i64 (Tm.I x (33 : Nat))), DV.v (Value.int IntKind.i64 (Tm.I x (34 : Nat))), DV.sl false (fun a a_1 => DV.v (Value.bool (Tm.tb x a))) (1 : Nat) (Tm.tn x), DV.sl false (fun a a_1 => DV.sl (Tm.bT x a) (Row.cell (Tm.bR x a)) (5 : Nat) (Row.n (Tm.bR x a))) (1 : Nat) (Tm.bn x), DV.v (Value.int IntKind.i64 (Tm.I x (37 : Nat))), DV.v (Value.string (Tm.S x (38 : Nat))), DV.v (Value.string (Tm.S x (39 : Nat))), DV.v (Value.string (Tm.S x (40 : Nat))), DV.v (Value.string (Tm.S x (41 : Nat)))]] }]
    else K Ex.normal (112 : Nat) [DV.po (0 : Nat) (0 : Nat) (0 : Nat), DV.v (Value.int IntKind.i64 (IntKind.wrap IntKind.i64 ((↑i : Int) + (1 : Int))))] [DV.po (0 : Nat) (0 : Nat) (0 : Nat), DV.any] [some { k := (42 : Nat), c := DC.lst [[DV.v (Value.int IntKind.i64 (Tm.I x (0 : Nat))), DV.v (Value.int IntKind.i64 (Tm.I x (1 : Nat))), DV.sl false (fun a a_1 => DV.sl (Tm.gT x a) (Row.cell (Tm.gR x a)) (5 : Nat) (Row.n (Tm.gR x a))) (1 : Nat) (Tm.gn x), DV.v (Value.int IntKind.i64 (Tm.I x (3 : Nat))), DV.v (Value.int IntKind.i64 (Tm.I x (4 : Nat))), DV.sl false (fun a a_1 => DV.sl (Tm.oT x a) (Row.cell (Tm.oR x a)) (5 : Nat) (Row.n (Tm.oR x a))) (1 : Nat) (Tm.on x), DV.v (Value.int IntKind.i64 (Tm.I x (6 : Nat))), DV.v (Value.int IntKind.i64 (Tm.I x (7 : Nat))), DV.v (Value.bool (Tm.B x (8 : Nat))), DV.v (Value.int IntKind.i64 (Tm.I x (9 : Nat))), DV.v (Value.int IntKind.i64 (Tm.I x (10 : Nat))), DV.v (Value.bool (Tm.B x (11 : Nat))), DV.v (Value.int IntKind.i64 (Tm.I x (12 : Nat))), DV.v (Value.int IntKind.i64 (Tm.I x (13 : Nat))), DV.v (Value.int IntKind.i64 (Tm.I x (14 : Nat))), DV.v (Value.bool (Tm.B x (15 : Nat))), DV.v (Value.int IntKind.u8 (Tm.I x (16 : Nat))), DV.v (Value.int IntKind.u8 (Tm.I x (17 : Nat))), DV.v (Value.int IntKind.i64 (Tm.I x (18 : Nat))), DV.v (Value.int IntKind.i64 (Tm.I x (19 : Nat))), DV.v (Value.int IntKind.i64 (Tm.I x (20 : Nat))), DV.v (Value.int IntKind.i64 (Tm.I x (21 : Nat))), DV.v (Value.bool (Tm.B x (22 : Nat))), DV.v (Value.bool (Tm.B x (23 : Nat))), DV.v (Value.bool (Tm.B x (24 : Nat))), DV.v (Value.bool (Tm.B x (25 : Nat))), DV.v (Value.bool (Tm.B x (26 : Nat))), DV.v (Value.bool (Tm.B x (27 : Nat))), DV.v (Value.bool (Tm.B x (28 : Nat))), DV.v (Value.bool (Tm.B x (29 : Nat))), DV.v (Value.int IntKind.u8 (Tm.I x (30 : Nat))), DV.v (Value.int IntKind.u8 (Tm.I x (31 : Nat))), DV.v (Value.int IntKind.i64 (Tm.I x (32 : Nat))), DV.v (Value.int IntKind.i64 (Tm.I x (33 : Nat))), DV.v (Value.int IntKind.i64 (Tm.I x (34 : Nat))), DV.sl false (fun a a_1 => DV.v (Value.bool (Tm.tb x a))) (1 : Nat) (Tm.tn x), DV.sl false (fun a a_1 => DV.sl (Tm.bT x a) (Row.cell (Tm.bR x a)) (5 : Nat) (Row.n (Tm.bR x a))) (1 : Nat) (Tm.bn x), DV.v (Value.int IntKind.i64 (Tm.I x (37 : Nat))), DV.v (Value.string (Tm.S x (38 : Nat))), DV.v (Value.string (Tm.S x (39 : Nat))), DV.v (Value.string (Tm.S x (40 : Nat))), DV.v (Value.string (Tm.S x (41 : Nat)))]] }]
    else none else none else K (Ex.exit (0 : Nat)) (112 : Nat) [DV.po (0 : Nat) (0 : Nat) (0 : Nat), DV.v (Value.int IntKind.i64 (↑i : Int))] [DV.po (0 : Nat) (0 : Nat) (0 : Nat), DV.any] [some { k := (42 : Nat), c := DC.lst [[DV.v (Value.int IntKind.i64 (Tm.I x (0 : Nat))), DV.v (Value.int IntKind.i64 (Tm.I x (1 : Nat))), DV.sl false (fun a a_1 => DV.sl (Tm.gT x a) (Row.cell (Tm.gR x a)) (5 : Nat) (Row.n (Tm.gR x a))) (1 : Nat) (Tm.gn x), DV.v (Value.int IntKind.i64 (Tm.I x (3 : Nat))), DV.v (Value.int IntKind.i64 (Tm.I x (4 : Nat))), DV.sl false (fun a a_1 => DV.sl (Tm.oT x a) (Row.cell (Tm.oR x a)) (5 : Nat) (Row.n (Tm.oR x a))) (1 : Nat) (Tm.on x), DV.v (Value.int IntKind.i64 (Tm.I x (6 : Nat))), DV.v (Value.int IntKind.i64 (Tm.I x (7 : Nat))), DV.v (Value.bool (Tm.B x (8 : Nat))), DV.v (Value.int IntKind.i64 (Tm.I x (9 : Nat))), DV.v (Value.int IntKind.i64 (Tm.I x (10 : Nat))), DV.v (Value.bool (Tm.B x (11 : Nat))), DV.v (Value.int IntKind.i64 (Tm.I x (12 : Nat))), DV.v (Value.int IntKind.i64 (Tm.I x (13 : Nat))), DV.v (Value.int IntKind.i64 (Tm.I x (14 : Nat))), DV.v (Value.bool (Tm.B x (15 : Nat))), DV.v (Value.int IntKind.u8 (Tm.I x (16 : Nat))), DV.v (Value.int IntKind.u8 (Tm.I x (17 : Nat))), DV.v (Value.int IntKind.i64 (Tm.I x (18 : Nat))), DV.v (Value.int IntKind.i64 (Tm.I x (19 : Nat))), DV.v (Value.int IntKind.i64 (Tm.I x (20 : Nat))), DV.v (Value.int IntKind.i64 (Tm.I x (21 : Nat))), DV.v (Value.bool (Tm.B x (22 : Nat))), DV.v (Value.bool (Tm.B x (23 : Nat))), DV.v (Value.bool (Tm.B x (24 : Nat))), DV.v (Value.bool (Tm.B x (25 : Nat))), DV.v (Value.bool (Tm.B x (26 : Nat))), DV.v (Value.bool (Tm.B x (27 : Nat))), DV.v (Value.bool (Tm.B x (28 : Nat))), DV.v (Value.bool (Tm.B x (29 : Nat))), DV.v (Value.int IntKind.u8 (Tm.I x (30 : Nat))), DV.v (Value.int IntKind.u8 (Tm.I x (31 : Nat))), DV.v (Value.int IntKind.i64 (Tm.I x (32 : Nat))), DV.v (Value.int IntKind.i64 (Tm.I x (33 : Nat))), DV.v (Value.int IntKind.i64 (Tm.I x (34 : Nat))), DV.sl false (fun a a_1 => DV.v (Value.bool (Tm.tb x a))) (1 : Nat) (Tm.tn x), DV.sl false (fun a a_1 => DV.sl (Tm.bT x a) (Row.cell (Tm.bR x a)) (5 : Nat) (Row.n (Tm.bR x a))) (1 : Nat) (Tm.bn x), DV.v (Value.int IntKind.i64 (Tm.I x (37 : Nat))), DV.v (Value.string (Tm.S x (38 : Nat))), DV.v (Value.string (Tm.S x (39 : Nat))), DV.v (Value.string (Tm.S x (40 : Nat))), DV.v (Value.string (Tm.S x (41 : Nat)))]] }] := by
  kernel_rfl
theorem gt_ls58 {st : AE.Stat} (x : Tm) (hn : x.bn ≤ 9000000) : LoopS Tryz.prog st gl0 (.loop (loopAt Tryz.f9 58)) (gtI x x.bR x.bn 3 0).g := by
  refine (gtI x x.bR x.bn 3 0).ok (E := env [] noLp 0) (p := 500) (tblD_env (l := []) fun _ h => nomatch h) (glOk st).1 (fun _ _ _ h => nomatch h) (fun i k h => gt_cps h) fun i hi => ?_
  have hi : i ≤ x.bn := hi
  refine (gt_loop58 x i _).trans ?_
  simp only [Int.toNat_natCast, Nat.add_zero]
  refine dS (fun hlt => ?_) fun hge => ?_
  · have hlt : i < x.bn := by omega
    have e : x.bn - i = (x.bn - (i + 1)) + 1 := by omega
    have hW : IntKind.i64.wrap ((i : Int) + 1) = ((i + 1 : Nat) : Int) := by rw [W_in (by omega) (by omega)]; omega
    rw [hW]
    have hq : longF x.bR (x.bn - i) i = bif decide (((x.bR i).n : Int) > 200) then false else longF x.bR (x.bn - (i + 1)) (i + 1) := by rw [e, longF]
    refine dT (by omega) (dT hlt (dS (fun h2 => ?_) fun h2 => ?_))
    · rw [decide_eq_true h2, cond_true] at hq
      refine LInv.ask_of ⟨rfl, ?_, [], ?_⟩
      · simp only [gtI]; rw [hq]
      · simp only [gtI]; rw [hq]; exact wkN (.cons (.any _) (.cons (.v _) .nil))
    · rw [decide_eq_false h2, cond_false] at hq
      refine LInv.ask_of ⟨rfl, i + 1, ⟨?_, ?_, ?_, hlt⟩, ?_, [], wkS x.clo (.cons (.po rfl) (.cons (.v _) .nil))⟩
      · simp only [gtI]; rw [hq]
      · simp only [gtI]; rw [hq]
      · simp only [gtI]; rw [hq]
      · simp only [gtI]; omega
  · have hr : longF x.bR (x.bn - i) i = true := by
      have : x.bn - i = 0 := by omega
      rw [this, longF]
    refine LInv.ask_of ⟨rfl, ?_, [], ?_⟩
    · simp only [gtI]; rw [hr]
    · simp only [gtI]; rw [hr]; exact wkS x.clo (.cons (.po rfl) (.cons (.any _) .nil))
theorem gt_loop122 (x : Tm) (i : Nat) (K : Ex → Nat → List DV → List DV → DHeap → Option Unit) : execD Tryz.prog (env [] noLp 0) (loopAt Tryz.f9 122) 500 (temps 112 [1, 4] [.po 0 0 0, iv i]) [some ⟨42, .lst [x.cells]⟩] (fun e τ σ => K e τ.length (pick [1, 4] τ) (pick [1, 2] τ) σ) =
    bif decide ((↑i : Int) < (↑(Tm.gn x) : Int)) then bif decide ((↑i : Int) < (↑(Tm.gn x) : Int)) then bif decide (Int.toNat (↑i : Int) + (0 : Nat) < Tm.gn x) then bif decide ((↑(Row.n (Tm.gR x (Int.toNat (↑i : Int) + (0 : Nat)))) : Int) > (200 : Int))
    then K Ex.ret (112 : Nat) [DV.po (0 : Nat) (0 : Nat) (0 : Nat), DV.v (Value.int IntKind.i64 (↑i : Int))] [DV.po (0 : Nat) (0 : Nat) (0 : Nat), DV.v (Value.bool true)] [some { k := (42 : Nat), c := DC.lst [[DV.v (Value.int IntKind.i64 (Tm.I x (0 : Nat))), DV.v (Value.int IntKind.i64 (Tm.I x (1 : Nat))), DV.sl false (fun a a_1 => DV.sl (Tm.gT x a) (Row.cell (Tm.gR x a)) (5 : Nat) (Row.n (Tm.gR x a))) (1 : Nat) (Tm.gn x), DV.v (Value.int IntKind.i64 (Tm.I x (3 : Nat))), DV.v (Value.int IntKind.i64 (Tm.I x (4 : Nat))), DV.sl false (fun a a_1 => DV.sl (Tm.oT x a) (Row.cell (Tm.oR x a)) (5 : Nat) (Row.n (Tm.oR x a))) (1 : Nat) (Tm.on x), DV.v (Value.int IntKind.i64 (Tm.I x (6 : Nat))), DV.v (Value.int IntKind.i64 (Tm.I x (7 : Nat))), DV.v (Value.bool (Tm.B x (8 : Nat))), DV.v (Value.int IntKind.i64 (Tm.I x (9 : Nat))), DV.v (Value.int IntKind.i64 (Tm.I x (10 : Nat))), DV.v (Value.bool (Tm.B x (11 : Nat))), DV.v (Value.int IntKind.i64 (Tm.I x (12 : Nat))), DV.v (Value.int IntKind.i64 (Tm.I x (13 : Nat))), DV.v (Value.int IntKind.i64 (Tm.I x (14 : Nat))), DV.v (Value.bool (Tm.B x (15 : Nat))), DV.v (Value.int IntKind.u8 (Tm.I x (16 : Nat))), DV.v (Value.int IntKind.u8 (Tm.I x (17 : Nat))), DV.v (Value.int IntKind.i64 (Tm.I x (18 : Nat))), DV.v (Value.int IntKind.i64 (Tm.I x (19 : Nat))), DV.v (Value.int IntKind.i64 (Tm.I x (20 : Nat))), DV.v (Value.int IntKind.i64 (Tm.I x (21 : Nat))), DV.v (Value.bool (Tm.B x (22 : Nat))), DV.v (Value.bool (Tm.B x (23 : Nat))), DV.v (Value.bool (Tm.B x (24 : Nat))), DV.v (Value.bool (Tm.B x (25 : Nat))), DV.v (Value.bool (Tm.B x (26 : Nat))), DV.v (Value.bool (Tm.B x (27 : Nat))), DV.v (Value.bool (Tm.B x (28 : Nat))), DV.v (Value.bool (Tm.B x (29 : Nat))), DV.v (Value.int IntKind.u8 (Tm.I x (30 : Nat))), DV.v (Value.int IntKind.u8 (Tm.I x (31 : Nat))), DV.v (Value.int IntKind.i64 (Tm.I x (32 : Nat))), DV.v (Value.int IntKind.i64 (Tm.I x (33 : Nat))), DV.v (Value.int IntKind.i64 (Tm.I x (34 : Nat))), DV.sl false (fun a a_1 => DV.v (Value.bool (Tm.tb x a))) (1 : Nat) (Tm.tn x), DV.sl false (fun a a_1 => DV.sl (Tm.bT x a) (Row.cell (Tm.bR x a)) (5 : Nat) (Row.n (Tm.bR x a))) (1 : Nat) (Tm.bn x), DV.v (Value.int IntKind.i64 (Tm.I x (37 : Nat))), DV.v (Value.string (Tm.S x (38 : Nat))), DV.v (Value.string (Tm.S x (39 : Nat))), DV.v (Value.string (Tm.S x (40 : Nat))), DV.v (Value.string (Tm.S x (41 : Nat)))]] }]
    else K Ex.normal (112 : Nat) [DV.po (0 : Nat) (0 : Nat) (0 : Nat), DV.v (Value.int IntKind.i64 (IntKind.wrap IntKind.i64 ((↑i : Int) + (1 : Int))))] [DV.po (0 : Nat) (0 : Nat) (0 : Nat), DV.any] [some { k := (42 : Nat), c := DC.lst [[DV.v (Value.int IntKind.i64 (Tm.I x (0 : Nat))), DV.v (Value.int IntKind.i64 (Tm.I x (1 : Nat))), DV.sl false (fun a a_1 => DV.sl (Tm.gT x a) (Row.cell (Tm.gR x a)) (5 : Nat) (Row.n (Tm.gR x a))) (1 : Nat) (Tm.gn x), DV.v (Value.int IntKind.i64 (Tm.I x (3 : Nat))), DV.v (Value.int IntKind.i64 (Tm.I x (4 : Nat))), DV.sl false (fun a a_1 => DV.sl (Tm.oT x a) (Row.cell (Tm.oR x a)) (5 : Nat) (Row.n (Tm.oR x a))) (1 : Nat) (Tm.on x), DV.v (Value.int IntKind.i64 (Tm.I x (6 : Nat))), DV.v (Value.int IntKind.i64 (Tm.I x (7 : Nat))), DV.v (Value.bool (Tm.B x (8 : Nat))), DV.v (Value.int IntKind.i64 (Tm.I x (9 : Nat))), DV.v (Value.int IntKind.i64 (Tm.I x (10 : Nat))), DV.v (Value.bool (Tm.B x (11 : Nat))), DV.v (Value.int IntKind.i64 (Tm.I x (12 : Nat))), DV.v (Value.int IntKind.i64 (Tm.I x (13 : Nat))), DV.v (Value.int IntKind.i64 (Tm.I x (14 : Nat))), DV.v (Value.bool (Tm.B x (15 : Nat))), DV.v (Value.int IntKind.u8 (Tm.I x (16 : Nat))), DV.v (Value.int IntKind.u8 (Tm.I x (17 : Nat))), DV.v (Value.int IntKind.i64 (Tm.I x (18 : Nat))), DV.v (Value.int IntKind.i64 (Tm.I x (19 : Nat))), DV.v (Value.int IntKind.i64 (Tm.I x (20 : Nat))), DV.v (Value.int IntKind.i64 (Tm.I x (21 : Nat))), DV.v (Value.bool (Tm.B x (22 : Nat))), DV.v (Value.bool (Tm.B x (23 : Nat))), DV.v (Value.bool (Tm.B x (24 : Nat))), DV.v (Value.bool (Tm.B x (25 : Nat))), DV.v (Value.bool (Tm.B x (26 : Nat))), DV.v (Value.bool (Tm.B x (27 : Nat))), DV.v (Value.bool (Tm.B x (28 : Nat))), DV.v (Value.bool (Tm.B x (29 : Nat))), DV.v (Value.int IntKind.u8 (Tm.I x (30 : Nat))), DV.v (Value.int IntKind.u8 (Tm.I x (31 : Nat))), DV.v (Value.int IntKind.i64 (Tm.I x (32 : Nat))), DV.v (Value.int IntKind.i64 (Tm.I x (33 : Nat))), DV.v (Value.int IntKind.i64 (Tm.I x (34 : Nat))), DV.sl false (fun a a_1 => DV.v (Value.bool (Tm.tb x a))) (1 : Nat) (Tm.tn x), DV.sl false (fun a a_1 => DV.sl (Tm.bT x a) (Row.cell (Tm.bR x a)) (5 : Nat) (Row.n (Tm.bR x a))) (1 : Nat) (Tm.bn x), DV.v (Value.int IntKind.i64 (Tm.I x (37 : Nat))), DV.v (Value.string (Tm.S x (38 : Nat))), DV.v (Value.string (Tm.S x (39 : Nat))), DV.v (Value.string (Tm.S x (40 : Nat))), DV.v (Value.string (Tm.S x (41 : Nat)))]] }]
    else none else none else K (Ex.exit (2 : Nat)) (112 : Nat) [DV.po (0 : Nat) (0 : Nat) (0 : Nat), DV.v (Value.int IntKind.i64 (↑i : Int))] [DV.po (0 : Nat) (0 : Nat) (0 : Nat), DV.any] [some { k := (42 : Nat), c := DC.lst [[DV.v (Value.int IntKind.i64 (Tm.I x (0 : Nat))), DV.v (Value.int IntKind.i64 (Tm.I x (1 : Nat))), DV.sl false (fun a a_1 => DV.sl (Tm.gT x a) (Row.cell (Tm.gR x a)) (5 : Nat) (Row.n (Tm.gR x a))) (1 : Nat) (Tm.gn x), DV.v (Value.int IntKind.i64 (Tm.I x (3 : Nat))), DV.v (Value.int IntKind.i64 (Tm.I x (4 : Nat))), DV.sl false (fun a a_1 => DV.sl (Tm.oT x a) (Row.cell (Tm.oR x a)) (5 : Nat) (Row.n (Tm.oR x a))) (1 : Nat) (Tm.on x), DV.v (Value.int IntKind.i64 (Tm.I x (6 : Nat))), DV.v (Value.int IntKind.i64 (Tm.I x (7 : Nat))), DV.v (Value.bool (Tm.B x (8 : Nat))), DV.v (Value.int IntKind.i64 (Tm.I x (9 : Nat))), DV.v (Value.int IntKind.i64 (Tm.I x (10 : Nat))), DV.v (Value.bool (Tm.B x (11 : Nat))), DV.v (Value.int IntKind.i64 (Tm.I x (12 : Nat))), DV.v (Value.int IntKind.i64 (Tm.I x (13 : Nat))), DV.v (Value.int IntKind.i64 (Tm.I x (14 : Nat))), DV.v (Value.bool (Tm.B x (15 : Nat))), DV.v (Value.int IntKind.u8 (Tm.I x (16 : Nat))), DV.v (Value.int IntKind.u8 (Tm.I x (17 : Nat))), DV.v (Value.int IntKind.i64 (Tm.I x (18 : Nat))), DV.v (Value.int IntKind.i64 (Tm.I x (19 : Nat))), DV.v (Value.int IntKind.i64 (Tm.I x (20 : Nat))), DV.v (Value.int IntKind.i64 (Tm.I x (21 : Nat))), DV.v (Value.bool (Tm.B x (22 : Nat))), DV.v (Value.bool (Tm.B x (23 : Nat))), DV.v (Value.bool (Tm.B x (24 : Nat))), DV.v (Value.bool (Tm.B x (25 : Nat))), DV.v (Value.bool (Tm.B x (26 : Nat))), DV.v (Value.bool (Tm.B x (27 : Nat))), DV.v (Value.bool (Tm.B x (28 : Nat))), DV.v (Value.bool (Tm.B x (29 : Nat))), DV.v (Value.int IntKind.u8 (Tm.I x (30 : Nat))), DV.v (Value.int IntKind.u8 (Tm.I x (31 : Nat))), DV.v (Value.int IntKind.i64 (Tm.I x (32 : Nat))), DV.v (Value.int IntKind.i64 (Tm.I x (33 : Nat))), DV.v (Value.int IntKind.i64 (Tm.I x (34 : Nat))), DV.sl false (fun a a_1 => DV.v (Value.bool (Tm.tb x a))) (1 : Nat) (Tm.tn x), DV.sl false (fun a a_1 => DV.sl (Tm.bT x a) (Row.cell (Tm.bR x a)) (5 : Nat) (Row.n (Tm.bR x a))) (1 : Nat) (Tm.bn x), DV.v (Value.int IntKind.i64 (Tm.I x (37 : Nat))), DV.v (Value.string (Tm.S x (38 : Nat))), DV.v (Value.string (Tm.S x (39 : Nat))), DV.v (Value.string (Tm.S x (40 : Nat))), DV.v (Value.string (Tm.S x (41 : Nat)))]] }] := by
  kernel_rfl
theorem gt_ls122 {st : AE.Stat} (x : Tm) (hn : x.gn ≤ 9000000) : LoopS Tryz.prog st gl0 (.loop (loopAt Tryz.f9 122)) (gtI x x.gR x.gn 4 2).g := by
  refine (gtI x x.gR x.gn 4 2).ok (E := env [] noLp 0) (p := 500) (tblD_env (l := []) fun _ h => nomatch h) (glOk st).1 (fun _ _ _ h => nomatch h) (fun i k h => gt_cps h) fun i hi => ?_
  have hi : i ≤ x.gn := hi
  refine (gt_loop122 x i _).trans ?_
  simp only [Int.toNat_natCast, Nat.add_zero]
  refine dS (fun hlt => ?_) fun hge => ?_
  · have hlt : i < x.gn := by omega
    have e : x.gn - i = (x.gn - (i + 1)) + 1 := by omega
    have hW : IntKind.i64.wrap ((i : Int) + 1) = ((i + 1 : Nat) : Int) := by rw [W_in (by omega) (by omega)]; omega
    rw [hW]
    have hq : longF x.gR (x.gn - i) i = bif decide (((x.gR i).n : Int) > 200) then false else longF x.gR (x.gn - (i + 1)) (i + 1) := by rw [e, longF]
    refine dT (by omega) (dT hlt (dS (fun h2 => ?_) fun h2 => ?_))
    · rw [decide_eq_true h2, cond_true] at hq
      refine LInv.ask_of ⟨rfl, ?_, [], ?_⟩
      · simp only [gtI]; rw [hq]
      · simp only [gtI]; rw [hq]; exact wkN (.cons (.any _) (.cons (.v _) .nil))
    · rw [decide_eq_false h2, cond_false] at hq
      refine LInv.ask_of ⟨rfl, i + 1, ⟨?_, ?_, ?_, hlt⟩, ?_, [], wkS x.clo (.cons (.po rfl) (.cons (.v _) .nil))⟩
      · simp only [gtI]; rw [hq]
      · simp only [gtI]; rw [hq]
      · simp only [gtI]; rw [hq]
      · simp only [gtI]; omega
  · have hr : longF x.gR (x.gn - i) i = true := by
      have : x.gn - i = 0 := by omega
      rw [this, longF]
    refine LInv.ask_of ⟨rfl, ?_, [], ?_⟩
    · simp only [gtI]; rw [hr]
    · simp only [gtI]; rw [hr]; exact wkS x.clo (.cons (.po rfl) (.cons (.any _) .nil))
theorem gt_loop250 (x : Tm) (i : Nat) (K : Ex → Nat → List DV → List DV → DHeap → Option Unit) : execD Tryz.prog (env [] noLp 0) (loopAt Tryz.f9 250) 500 (temps 112 [1, 5] [.po 0 0 0, iv i]) [some ⟨42, .lst [x.cells]⟩] (fun e τ σ => K e τ.length (pick [1, 5] τ) (pick [1, 2] τ) σ) =
    bif decide ((↑i : Int) < (↑(Tm.on x) : Int)) then bif decide ((↑i : Int) < (↑(Tm.on x) : Int)) then bif decide (Int.toNat (↑i : Int) + (0 : Nat) < Tm.on x) then bif decide ((↑(Row.n (Tm.oR x (Int.toNat (↑i : Int) + (0 : Nat)))) : Int) > (200 : Int))
    then K Ex.ret (112 : Nat) [DV.po (0 : Nat) (0 : Nat) (0 : Nat), DV.v (Value.int IntKind.i64 (↑i : Int))] [DV.po (0 : Nat) (0 : Nat) (0 : Nat), DV.v (Value.bool true)] [some { k := (42 : Nat), c := DC.lst [[DV.v (Value.int IntKind.i64 (Tm.I x (0 : Nat))), DV.v (Value.int IntKind.i64 (Tm.I x (1 : Nat))), DV.sl false (fun a a_1 => DV.sl (Tm.gT x a) (Row.cell (Tm.gR x a)) (5 : Nat) (Row.n (Tm.gR x a))) (1 : Nat) (Tm.gn x), DV.v (Value.int IntKind.i64 (Tm.I x (3 : Nat))), DV.v (Value.int IntKind.i64 (Tm.I x (4 : Nat))), DV.sl false (fun a a_1 => DV.sl (Tm.oT x a) (Row.cell (Tm.oR x a)) (5 : Nat) (Row.n (Tm.oR x a))) (1 : Nat) (Tm.on x), DV.v (Value.int IntKind.i64 (Tm.I x (6 : Nat))), DV.v (Value.int IntKind.i64 (Tm.I x (7 : Nat))), DV.v (Value.bool (Tm.B x (8 : Nat))), DV.v (Value.int IntKind.i64 (Tm.I x (9 : Nat))), DV.v (Value.int IntKind.i64 (Tm.I x (10 : Nat))), DV.v (Value.bool (Tm.B x (11 : Nat))), DV.v (Value.int IntKind.i64 (Tm.I x (12 : Nat))), DV.v (Value.int IntKind.i64 (Tm.I x (13 : Nat))), DV.v (Value.int IntKind.i64 (Tm.I x (14 : Nat))), DV.v (Value.bool (Tm.B x (15 : Nat))), DV.v (Value.int IntKind.u8 (Tm.I x (16 : Nat))), DV.v (Value.int IntKind.u8 (Tm.I x (17 : Nat))), DV.v (Value.int IntKind.i64 (Tm.I x (18 : Nat))), DV.v (Value.int IntKind.i64 (Tm.I x (19 : Nat))), DV.v (Value.int IntKind.i64 (Tm.I x (20 : Nat))), DV.v (Value.int IntKind.i64 (Tm.I x (21 : Nat))), DV.v (Value.bool (Tm.B x (22 : Nat))), DV.v (Value.bool (Tm.B x (23 : Nat))), DV.v (Value.bool (Tm.B x (24 : Nat))), DV.v (Value.bool (Tm.B x (25 : Nat))), DV.v (Value.bool (Tm.B x (26 : Nat))), DV.v (Value.bool (Tm.B x (27 : Nat))), DV.v (Value.bool (Tm.B x (28 : Nat))), DV.v (Value.bool (Tm.B x (29 : Nat))), DV.v (Value.int IntKind.u8 (Tm.I x (30 : Nat))), DV.v (Value.int IntKind.u8 (Tm.I x (31 : Nat))), DV.v (Value.int IntKind.i64 (Tm.I x (32 : Nat))), DV.v (Value.int IntKind.i64 (Tm.I x (33 : Nat))), DV.v (Value.int IntKind.i64 (Tm.I x (34 : Nat))), DV.sl false (fun a a_1 => DV.v (Value.bool (Tm.tb x a))) (1 : Nat) (Tm.tn x), DV.sl false (fun a a_1 => DV.sl (Tm.bT x a) (Row.cell (Tm.bR x a)) (5 : Nat) (Row.n (Tm.bR x a))) (1 : Nat) (Tm.bn x), DV.v (Value.int IntKind.i64 (Tm.I x (37 : Nat))), DV.v (Value.string (Tm.S x (38 : Nat))), DV.v (Value.string (Tm.S x (39 : Nat))), DV.v (Value.string (Tm.S x (40 : Nat))), DV.v (Value.string (Tm.S x (41 : Nat)))]] }]
    else K Ex.normal (112 : Nat) [DV.po (0 : Nat) (0 : Nat) (0 : Nat), DV.v (Value.int IntKind.i64 (IntKind.wrap IntKind.i64 ((↑i : Int) + (1 : Int))))] [DV.po (0 : Nat) (0 : Nat) (0 : Nat), DV.any] [some { k := (42 : Nat), c := DC.lst [[DV.v (Value.int IntKind.i64 (Tm.I x (0 : Nat))), DV.v (Value.int IntKind.i64 (Tm.I x (1 : Nat))), DV.sl false (fun a a_1 => DV.sl (Tm.gT x a) (Row.cell (Tm.gR x a)) (5 : Nat) (Row.n (Tm.gR x a))) (1 : Nat) (Tm.gn x), DV.v (Value.int IntKind.i64 (Tm.I x (3 : Nat))), DV.v (Value.int IntKind.i64 (Tm.I x (4 : Nat))), DV.sl false (fun a a_1 => DV.sl (Tm.oT x a) (Row.cell (Tm.oR x a)) (5 : Nat) (Row.n (Tm.oR x a))) (1 : Nat) (Tm.on x), DV.v (Value.int IntKind.i64 (Tm.I x (6 : Nat))), DV.v (Value.int IntKind.i64 (Tm.I x (7 : Nat))), DV.v (Value.bool (Tm.B x (8 : Nat))), DV.v (Value.int IntKind.i64 (Tm.I x (9 : Nat))), DV.v (Value.int IntKind.i64 (Tm.I x (10 : Nat))), DV.v (Value.bool (Tm.B x (11 : Nat))), DV.v (Value.int IntKind.i64 (Tm.I x (12 : Nat))), DV.v (Value.int IntKind.i64 (Tm.I x (13 : Nat))), DV.v (Value.int IntKind.i64 (Tm.I x (14 : Nat))), DV.v (Value.bool (Tm.B x (15 : Nat))), DV.v (Value.int IntKind.u8 (Tm.I x (16 : Nat))), DV.v (Value.int IntKind.u8 (Tm.I x (17 : Nat))), DV.v (Value.int IntKind.i64 (Tm.I x (18 : Nat))), DV.v (Value.int IntKind.i64 (Tm.I x (19 : Nat))), DV.v (Value.int IntKind.i64 (Tm.I x (20 : Nat))), DV.v (Value.int IntKind.i64 (Tm.I x (21 : Nat))), DV.v (Value.bool (Tm.B x (22 : Nat))), DV.v (Value.bool (Tm.B x (23 : Nat))), DV.v (Value.bool (Tm.B x (24 : Nat))), DV.v (Value.bool (Tm.B x (25 : Nat))), DV.v (Value.bool (Tm.B x (26 : Nat))), DV.v (Value.bool (Tm.B x (27 : Nat))), DV.v (Value.bool (Tm.B x (28 : Nat))), DV.v (Value.bool (Tm.B x (29 : Nat))), DV.v (Value.int IntKind.u8 (Tm.I x (30 : Nat))), DV.v (Value.int IntKind.u8 (Tm.I x (31 : Nat))), DV.v (Value.int IntKind.i64 (Tm.I x (32 : Nat))), DV.v (Value.int IntKind.i64 (Tm.I x (33 : Nat))), DV.v (Value.int IntKind.i64 (Tm.I x (34 : Nat))), DV.sl false (fun a a_1 => DV.v (Value.bool (Tm.tb x a))) (1 : Nat) (Tm.tn x), DV.sl false (fun a a_1 => DV.sl (Tm.bT x a) (Row.cell (Tm.bR x a)) (5 : Nat) (Row.n (Tm.bR x a))) (1 : Nat) (Tm.bn x), DV.v (Value.int IntKind.i64 (Tm.I x (37 : Nat))), DV.v (Value.string (Tm.S x (38 : Nat))), DV.v (Value.string (Tm.S x (39 : Nat))), DV.v (Value.string (Tm.S x (40 : Nat))), DV.v (Value.string (Tm.S x (41 : Nat)))]] }]
    else none else none else K (Ex.exit (4 : Nat)) (112 : Nat) [DV.po (0 : Nat) (0 : Nat) (0 : Nat), DV.v (Value.int IntKind.i64 (↑i : Int))] [DV.po (0 : Nat) (0 : Nat) (0 : Nat), DV.any] [some { k := (42 : Nat), c := DC.lst [[DV.v (Value.int IntKind.i64 (Tm.I x (0 : Nat))), DV.v (Value.int IntKind.i64 (Tm.I x (1 : Nat))), DV.sl false (fun a a_1 => DV.sl (Tm.gT x a) (Row.cell (Tm.gR x a)) (5 : Nat) (Row.n (Tm.gR x a))) (1 : Nat) (Tm.gn x), DV.v (Value.int IntKind.i64 (Tm.I x (3 : Nat))), DV.v (Value.int IntKind.i64 (Tm.I x (4 : Nat))), DV.sl false (fun a a_1 => DV.sl (Tm.oT x a) (Row.cell (Tm.oR x a)) (5 : Nat) (Row.n (Tm.oR x a))) (1 : Nat) (Tm.on x), DV.v (Value.int IntKind.i64 (Tm.I x (6 : Nat))), DV.v (Value.int IntKind.i64 (Tm.I x (7 : Nat))), DV.v (Value.bool (Tm.B x (8 : Nat))), DV.v (Value.int IntKind.i64 (Tm.I x (9 : Nat))), DV.v (Value.int IntKind.i64 (Tm.I x (10 : Nat))), DV.v (Value.bool (Tm.B x (11 : Nat))), DV.v (Value.int IntKind.i64 (Tm.I x (12 : Nat))), DV.v (Value.int IntKind.i64 (Tm.I x (13 : Nat))), DV.v (Value.int IntKind.i64 (Tm.I x (14 : Nat))), DV.v (Value.bool (Tm.B x (15 : Nat))), DV.v (Value.int IntKind.u8 (Tm.I x (16 : Nat))), DV.v (Value.int IntKind.u8 (Tm.I x (17 : Nat))), DV.v (Value.int IntKind.i64 (Tm.I x (18 : Nat))), DV.v (Value.int IntKind.i64 (Tm.I x (19 : Nat))), DV.v (Value.int IntKind.i64 (Tm.I x (20 : Nat))), DV.v (Value.int IntKind.i64 (Tm.I x (21 : Nat))), DV.v (Value.bool (Tm.B x (22 : Nat))), DV.v (Value.bool (Tm.B x (23 : Nat))), DV.v (Value.bool (Tm.B x (24 : Nat))), DV.v (Value.bool (Tm.B x (25 : Nat))), DV.v (Value.bool (Tm.B x (26 : Nat))), DV.v (Value.bool (Tm.B x (27 : Nat))), DV.v (Value.bool (Tm.B x (28 : Nat))), DV.v (Value.bool (Tm.B x (29 : Nat))), DV.v (Value.int IntKind.u8 (Tm.I x (30 : Nat))), DV.v (Value.int IntKind.u8 (Tm.I x (31 : Nat))), DV.v (Value.int IntKind.i64 (Tm.I x (32 : Nat))), DV.v (Value.int IntKind.i64 (Tm.I x (33 : Nat))), DV.v (Value.int IntKind.i64 (Tm.I x (34 : Nat))), DV.sl false (fun a a_1 => DV.v (Value.bool (Tm.tb x a))) (1 : Nat) (Tm.tn x), DV.sl false (fun a a_1 => DV.sl (Tm.bT x a) (Row.cell (Tm.bR x a)) (5 : Nat) (Row.n (Tm.bR x a))) (1 : Nat) (Tm.bn x), DV.v (Value.int IntKind.i64 (Tm.I x (37 : Nat))), DV.v (Value.string (Tm.S x (38 : Nat))), DV.v (Value.string (Tm.S x (39 : Nat))), DV.v (Value.string (Tm.S x (40 : Nat))), DV.v (Value.string (Tm.S x (41 : Nat)))]] }] := by
  kernel_rfl
theorem gt_ls250 {st : AE.Stat} (x : Tm) (hn : x.on ≤ 9000000) : LoopS Tryz.prog st gl0 (.loop (loopAt Tryz.f9 250)) (gtI x x.oR x.on 5 4).g := by
  refine (gtI x x.oR x.on 5 4).ok (E := env [] noLp 0) (p := 500) (tblD_env (l := []) fun _ h => nomatch h) (glOk st).1 (fun _ _ _ h => nomatch h) (fun i k h => gt_cps h) fun i hi => ?_
  have hi : i ≤ x.on := hi
  refine (gt_loop250 x i _).trans ?_
  simp only [Int.toNat_natCast, Nat.add_zero]
  refine dS (fun hlt => ?_) fun hge => ?_
  · have hlt : i < x.on := by omega
    have e : x.on - i = (x.on - (i + 1)) + 1 := by omega
    have hW : IntKind.i64.wrap ((i : Int) + 1) = ((i + 1 : Nat) : Int) := by rw [W_in (by omega) (by omega)]; omega
    rw [hW]
    have hq : longF x.oR (x.on - i) i = bif decide (((x.oR i).n : Int) > 200) then false else longF x.oR (x.on - (i + 1)) (i + 1) := by rw [e, longF]
    refine dT (by omega) (dT hlt (dS (fun h2 => ?_) fun h2 => ?_))
    · rw [decide_eq_true h2, cond_true] at hq
      refine LInv.ask_of ⟨rfl, ?_, [], ?_⟩
      · simp only [gtI]; rw [hq]
      · simp only [gtI]; rw [hq]; exact wkN (.cons (.any _) (.cons (.v _) .nil))
    · rw [decide_eq_false h2, cond_false] at hq
      refine LInv.ask_of ⟨rfl, i + 1, ⟨?_, ?_, ?_, hlt⟩, ?_, [], wkS x.clo (.cons (.po rfl) (.cons (.v _) .nil))⟩
      · simp only [gtI]; rw [hq]
      · simp only [gtI]; rw [hq]
      · simp only [gtI]; rw [hq]
      · simp only [gtI]; omega
  · have hr : longF x.oR (x.on - i) i = true := by
      have : x.on - i = 0 := by omega
      rw [this, longF]
    refine LInv.ask_of ⟨rfl, ?_, [], ?_⟩
    · simp only [gtI]; rw [hr]
    · simp only [gtI]; rw [hr]; exact wkS x.clo (.cons (.po rfl) (.cons (.any _) .nil))
theorem gt_tree (x : Tm) (k : DV → Option Unit) : bodyD Tryz.prog (env [] (lpOf [(58, (gtI x x.bR x.bn 3 0).g), (122, (gtI x x.gR x.gn 4 2).g), (250, (gtI x x.oR x.on 5 4).g)]) 0) Tryz.f9 [.agg x.cells] [] (fun d _ => k d) =
    bif decide (Tm.I x (0 : Nat) > (20 : Int)) then k (DV.v (Value.bool true)) else bif decide (Tm.I x (1 : Nat) > (8 : Int)) then k (DV.v (Value.bool true)) else bif decide (Tm.I x (3 : Nat) > (20 : Int))
    then k (DV.v (Value.bool true)) else bif decide (Tm.I x (4 : Nat) > (8 : Int)) then k (DV.v (Value.bool true)) else bif decide ((↑(Tm.gn x) : Int) > (8 : Int)) then k (DV.v (Value.bool true)) else
    bif decide ((↑(Tm.on x) : Int) > (8 : Int)) then k (DV.v (Value.bool true)) else bif decide ((↑(Tm.bn x) : Int) > (30 : Int)) then k (DV.v (Value.bool true)) else bif decide ((↑(Tm.tn x) : Int) > (200 : Int))
    then k (DV.v (Value.bool true)) else bif decide ((↑(ByteArray.size (Tm.S x (40 : Nat))) : Int) > (300 : Int)) then k (DV.v (Value.bool true)) else bif decide ((↑(ByteArray.size (Tm.S x (41 : Nat))) : Int) > (1100 : Int))
    then k (DV.v (Value.bool true)) else bif holds (Nat.le (0 : Nat) (Tm.bn x) ∧ ∃ ids, WkP (LInv.m (gtI x (Tm.bR x) (Tm.bn x) (3 : Nat) (0 : Nat))) ids [DV.po (0 : Nat) (0 : Nat) (0 : Nat), DV.v (Value.int IntKind.i64 (0 : Int))] [some { k := (42 : Nat), c := DC.lst [[DV.v (Value.int IntKind.i64 (Tm.I x (0 : Nat))), DV.v (Value.int IntKind.i64 (Tm.I x (1 : Nat))), DV.sl false (fun a a_1 => DV.sl (Tm.gT x a) (Row.cell (Tm.gR x a)) (5 : Nat) (Row.n (Tm.gR x a))) (1 : Nat) (Tm.gn x), DV.v (Value.int IntKind.i64 (Tm.I x (3 : Nat))), DV.v (Value.int IntKind.i64 (Tm.I x (4 : Nat))), DV.sl false (fun a a_1 => DV.sl (Tm.oT x a) (Row.cell (Tm.oR x a)) (5 : Nat) (Row.n (Tm.oR x a))) (1 : Nat) (Tm.on x), DV.v (Value.int IntKind.i64 (Tm.I x (6 : Nat))), DV.v (Value.int IntKind.i64 (Tm.I x (7 : Nat))), DV.v (Value.bool (Tm.B x (8 : Nat))), DV.v (Value.int IntKind.i64 (Tm.I x (9 : Nat))), DV.v (Value.int IntKind.i64 (Tm.I x (10 : Nat))), DV.v (Value.bool (Tm.B x (11 : Nat))), DV.v (Value.int IntKind.i64 (Tm.I x (12 : Nat))), DV.v (Value.int IntKind.i64 (Tm.I x (13 : Nat))), DV.v (Value.int IntKind.i64 (Tm.I x (14 : Nat))), DV.v (Value.bool (Tm.B x (15 : Nat))), DV.v (Value.int IntKind.u8 (Tm.I x (16 : Nat))), DV.v (Value.int IntKind.u8 (Tm.I x (17 : Nat))), DV.v (Value.int IntKind.i64 (Tm.I x (18 : Nat))), DV.v (Value.int IntKind.i64 (Tm.I x (19 : Nat))), DV.v (Value.int IntKind.i64 (Tm.I x (20 : Nat))), DV.v (Value.int IntKind.i64 (Tm.I x (21 : Nat))), DV.v (Value.bool (Tm.B x (22 : Nat))), DV.v (Value.bool (Tm.B x (23 : Nat))), DV.v (Value.bool (Tm.B x (24 : Nat))), DV.v (Value.bool (Tm.B x (25 : Nat))), DV.v (Value.bool (Tm.B x (26 : Nat))), DV.v (Value.bool (Tm.B x (27 : Nat))), DV.v (Value.bool (Tm.B x (28 : Nat))), DV.v (Value.bool (Tm.B x (29 : Nat))), DV.v (Value.int IntKind.u8 (Tm.I x (30 : Nat))), DV.v (Value.int IntKind.u8 (Tm.I x (31 : Nat))), DV.v (Value.int IntKind.i64 (Tm.I x (32 : Nat))), DV.v (Value.int IntKind.i64 (Tm.I x (33 : Nat))), DV.v (Value.int IntKind.i64 (Tm.I x (34 : Nat))), DV.sl false (fun a a_1 => DV.v (Value.bool (Tm.tb x a))) (1 : Nat) (Tm.tn x), DV.sl false (fun a a_1 => DV.sl (Tm.bT x a) (Row.cell (Tm.bR x a)) (5 : Nat) (Row.n (Tm.bR x a))) (1 : Nat) (Tm.bn x), DV.v (Value.int IntKind.i64 (Tm.I x (37 : Nat))), DV.v (Value.string (Tm.S x (38 : Nat))), DV.v (Value.string (Tm.S x (39 : Nat))), DV.v (Value.string (Tm.S x (40 : Nat))), DV.v (Value.string (Tm.S x (41 : Nat)))]] }] [DV.po (0 : Nat) (0 : Nat) (0 : Nat), DV.v (Value.int IntKind.i64 (0 : Int))] [some { k := (42 : Nat), c := DC.lst [[DV.v (Value.int IntKind.i64 (Tm.I x (0 : Nat))), DV.v (Value.int IntKind.i64 (Tm.I x (1 : Nat))), DV.sl false (fun a a_1 => DV.sl (Tm.gT x a) (Row.cell (Tm.gR x a)) (5 : Nat) (Row.n (Tm.gR x a))) (1 : Nat) (Tm.gn x), DV.v (Value.int IntKind.i64 (Tm.I x (3 : Nat))), DV.v (Value.int IntKind.i64 (Tm.I x (4 : Nat))), DV.sl false (fun a a_1 => DV.sl (Tm.oT x a) (Row.cell (Tm.oR x a)) (5 : Nat) (Row.n (Tm.oR x a))) (1 : Nat) (Tm.on x), DV.v (Value.int IntKind.i64 (Tm.I x (6 : Nat))), DV.v (Value.int IntKind.i64 (Tm.I x (7 : Nat))), DV.v (Value.bool (Tm.B x (8 : Nat))), DV.v (Value.int IntKind.i64 (Tm.I x (9 : Nat))), DV.v (Value.int IntKind.i64 (Tm.I x (10 : Nat))), DV.v (Value.bool (Tm.B x (11 : Nat))), DV.v (Value.int IntKind.i64 (Tm.I x (12 : Nat))), DV.v (Value.int IntKind.i64 (Tm.I x (13 : Nat))), DV.v (Value.int IntKind.i64 (Tm.I x (14 : Nat))), DV.v (Value.bool (Tm.B x (15 : Nat))), DV.v (Value.int IntKind.u8 (Tm.I x (16 : Nat))), DV.v (Value.int IntKind.u8 (Tm.I x (17 : Nat))), DV.v (Value.int IntKind.i64 (Tm.I x (18 : Nat))), DV.v (Value.int IntKind.i64 (Tm.I x (19 : Nat))), DV.v (Value.int IntKind.i64 (Tm.I x (20 : Nat))), DV.v (Value.int IntKind.i64 (Tm.I x (21 : Nat))), DV.v (Value.bool (Tm.B x (22 : Nat))), DV.v (Value.bool (Tm.B x (23 : Nat))), DV.v (Value.bool (Tm.B x (24 : Nat))), DV.v (Value.bool (Tm.B x (25 : Nat))), DV.v (Value.bool (Tm.B x (26 : Nat))), DV.v (Value.bool (Tm.B x (27 : Nat))), DV.v (Value.bool (Tm.B x (28 : Nat))), DV.v (Value.bool (Tm.B x (29 : Nat))), DV.v (Value.int IntKind.u8 (Tm.I x (30 : Nat))), DV.v (Value.int IntKind.u8 (Tm.I x (31 : Nat))), DV.v (Value.int IntKind.i64 (Tm.I x (32 : Nat))), DV.v (Value.int IntKind.i64 (Tm.I x (33 : Nat))), DV.v (Value.int IntKind.i64 (Tm.I x (34 : Nat))), DV.sl false (fun a a_1 => DV.v (Value.bool (Tm.tb x a))) (1 : Nat) (Tm.tn x), DV.sl false (fun a a_1 => DV.sl (Tm.bT x a) (Row.cell (Tm.bR x a)) (5 : Nat) (Row.n (Tm.bR x a))) (1 : Nat) (Tm.bn x), DV.v (Value.int IntKind.i64 (Tm.I x (37 : Nat))), DV.v (Value.string (Tm.S x (38 : Nat))), DV.v (Value.string (Tm.S x (39 : Nat))), DV.v (Value.string (Tm.S x (40 : Nat))), DV.v (Value.string (Tm.S x (41 : Nat)))]] }])
    then bif holds (longF (Tm.bR x) (Tm.bn x - (0 : Nat)) (0 : Nat) = true) then bif holds (Nat.le (0 : Nat) (Tm.gn x) ∧ ∃ ids, WkP (LInv.m (gtI x (Tm.gR x) (Tm.gn x) (4 : Nat) (2 : Nat))) ids [DV.po (0 : Nat) (0 : Nat) (0 : Nat), DV.v (Value.int IntKind.i64 (0 : Int))] [some { k := (42 : Nat), c := DC.lst [[DV.v (Value.int IntKind.i64 (Tm.I x (0 : Nat))), DV.v (Value.int IntKind.i64 (Tm.I x (1 : Nat))), DV.sl false (fun a a_1 => DV.sl (Tm.gT x a) (Row.cell (Tm.gR x a)) (5 : Nat) (Row.n (Tm.gR x a))) (1 : Nat) (Tm.gn x), DV.v (Value.int IntKind.i64 (Tm.I x (3 : Nat))), DV.v (Value.int IntKind.i64 (Tm.I x (4 : Nat))), DV.sl false (fun a a_1 => DV.sl (Tm.oT x a) (Row.cell (Tm.oR x a)) (5 : Nat) (Row.n (Tm.oR x a))) (1 : Nat) (Tm.on x), DV.v (Value.int IntKind.i64 (Tm.I x (6 : Nat))), DV.v (Value.int IntKind.i64 (Tm.I x (7 : Nat))), DV.v (Value.bool (Tm.B x (8 : Nat))), DV.v (Value.int IntKind.i64 (Tm.I x (9 : Nat))), DV.v (Value.int IntKind.i64 (Tm.I x (10 : Nat))), DV.v (Value.bool (Tm.B x (11 : Nat))), DV.v (Value.int IntKind.i64 (Tm.I x (12 : Nat))), DV.v (Value.int IntKind.i64 (Tm.I x (13 : Nat))), DV.v (Value.int IntKind.i64 (Tm.I x (14 : Nat))), DV.v (Value.bool (Tm.B x (15 : Nat))), DV.v (Value.int IntKind.u8 (Tm.I x (16 : Nat))), DV.v (Value.int IntKind.u8 (Tm.I x (17 : Nat))), DV.v (Value.int IntKind.i64 (Tm.I x (18 : Nat))), DV.v (Value.int IntKind.i64 (Tm.I x (19 : Nat))), DV.v (Value.int IntKind.i64 (Tm.I x (20 : Nat))), DV.v (Value.int IntKind.i64 (Tm.I x (21 : Nat))), DV.v (Value.bool (Tm.B x (22 : Nat))), DV.v (Value.bool (Tm.B x (23 : Nat))), DV.v (Value.bool (Tm.B x (24 : Nat))), DV.v (Value.bool (Tm.B x (25 : Nat))), DV.v (Value.bool (Tm.B x (26 : Nat))), DV.v (Value.bool (Tm.B x (27 : Nat))), DV.v (Value.bool (Tm.B x (28 : Nat))), DV.v (Value.bool (Tm.B x (29 : Nat))), DV.v (Value.int IntKind.u8 (Tm.I x (30 : Nat))), DV.v (Value.int IntKind.u8 (Tm.I x (31 : Nat))), DV.v (Value.int IntKind.i64 (Tm.I x (32 : Nat))), DV.v (Value.int IntKind.i64 (Tm.I x (33 : Nat))), DV.v (Value.int IntKind.i64 (Tm.I x (34 : Nat))), DV.sl false (fun a a_1 => DV.v (Value.bool (Tm.tb x a))) (1 : Nat) (Tm.tn x), DV.sl false (fun a a_1 => DV.sl (Tm.bT x a) (Row.cell (Tm.bR x a)) (5 : Nat) (Row.n (Tm.bR x a))) (1 : Nat) (Tm.bn x), DV.v (Value.int IntKind.i64 (Tm.I x (37 : Nat))), DV.v (Value.string (Tm.S x (38 : Nat))), DV.v (Value.string (Tm.S x (39 : Nat))), DV.v (Value.string (Tm.S x (40 : Nat))), DV.v (Value.string (Tm.S x (41 : Nat)))]] }] [DV.po (0 : Nat) (0 : Nat) (0 : Nat), DV.v (Value.int IntKind.i64 (0 : Int))] [some { k := (42 : Nat), c := DC.lst [[DV.v (Value.int IntKind.i64 (Tm.I x (0 : Nat))), DV.v (Value.int IntKind.i64 (Tm.I x (1 : Nat))), DV.sl false (fun a a_1 => DV.sl (Tm.gT x a) (Row.cell (Tm.gR x a)) (5 : Nat) (Row.n (Tm.gR x a))) (1 : Nat) (Tm.gn x), DV.v (Value.int IntKind.i64 (Tm.I x (3 : Nat))), DV.v (Value.int IntKind.i64 (Tm.I x (4 : Nat))), DV.sl false (fun a a_1 => DV.sl (Tm.oT x a) (Row.cell (Tm.oR x a)) (5 : Nat) (Row.n (Tm.oR x a))) (1 : Nat) (Tm.on x), DV.v (Value.int IntKind.i64 (Tm.I x (6 : Nat))), DV.v (Value.int IntKind.i64 (Tm.I x (7 : Nat))), DV.v (Value.bool (Tm.B x (8 : Nat))), DV.v (Value.int IntKind.i64 (Tm.I x (9 : Nat))), DV.v (Value.int IntKind.i64 (Tm.I x (10 : Nat))), DV.v (Value.bool (Tm.B x (11 : Nat))), DV.v (Value.int IntKind.i64 (Tm.I x (12 : Nat))), DV.v (Value.int IntKind.i64 (Tm.I x (13 : Nat))), DV.v (Value.int IntKind.i64 (Tm.I x (14 : Nat))), DV.v (Value.bool (Tm.B x (15 : Nat))), DV.v (Value.int IntKind.u8 (Tm.I x (16 : Nat))), DV.v (Value.int IntKind.u8 (Tm.I x (17 : Nat))), DV.v (Value.int IntKind.i64 (Tm.I x (18 : Nat))), DV.v (Value.int IntKind.i64 (Tm.I x (19 : Nat))), DV.v (Value.int IntKind.i64 (Tm.I x (20 : Nat))), DV.v (Value.int IntKind.i64 (Tm.I x (21 : Nat))), DV.v (Value.bool (Tm.B x (22 : Nat))), DV.v (Value.bool (Tm.B x (23 : Nat))), DV.v (Value.bool (Tm.B x (24 : Nat))), DV.v (Value.bool (Tm.B x (25 : Nat))), DV.v (Value.bool (Tm.B x (26 : Nat))), DV.v (Value.bool (Tm.B x (27 : Nat))), DV.v (Value.bool (Tm.B x (28 : Nat))), DV.v (Value.bool (Tm.B x (29 : Nat))), DV.v (Value.int IntKind.u8 (Tm.I x (30 : Nat))), DV.v (Value.int IntKind.u8 (Tm.I x (31 : Nat))), DV.v (Value.int IntKind.i64 (Tm.I x (32 : Nat))), DV.v (Value.int IntKind.i64 (Tm.I x (33 : Nat))), DV.v (Value.int IntKind.i64 (Tm.I x (34 : Nat))), DV.sl false (fun a a_1 => DV.v (Value.bool (Tm.tb x a))) (1 : Nat) (Tm.tn x), DV.sl false (fun a a_1 => DV.sl (Tm.bT x a) (Row.cell (Tm.bR x a)) (5 : Nat) (Row.n (Tm.bR x a))) (1 : Nat) (Tm.bn x), DV.v (Value.int IntKind.i64 (Tm.I x (37 : Nat))), DV.v (Value.string (Tm.S x (38 : Nat))), DV.v (Value.string (Tm.S x (39 : Nat))), DV.v (Value.string (Tm.S x (40 : Nat))), DV.v (Value.string (Tm.S x (41 : Nat)))]] }])
    then bif holds (longF (Tm.gR x) (Tm.gn x - (0 : Nat)) (0 : Nat) = true) then bif holds (Nat.le (0 : Nat) (Tm.on x) ∧ ∃ ids, WkP (LInv.m (gtI x (Tm.oR x) (Tm.on x) (5 : Nat) (4 : Nat))) ids [DV.po (0 : Nat) (0 : Nat) (0 : Nat), DV.v (Value.int IntKind.i64 (0 : Int))] [some { k := (42 : Nat), c := DC.lst [[DV.v (Value.int IntKind.i64 (Tm.I x (0 : Nat))), DV.v (Value.int IntKind.i64 (Tm.I x (1 : Nat))), DV.sl false (fun a a_1 => DV.sl (Tm.gT x a) (Row.cell (Tm.gR x a)) (5 : Nat) (Row.n (Tm.gR x a))) (1 : Nat) (Tm.gn x), DV.v (Value.int IntKind.i64 (Tm.I x (3 : Nat))), DV.v (Value.int IntKind.i64 (Tm.I x (4 : Nat))), DV.sl false (fun a a_1 => DV.sl (Tm.oT x a) (Row.cell (Tm.oR x a)) (5 : Nat) (Row.n (Tm.oR x a))) (1 : Nat) (Tm.on x), DV.v (Value.int IntKind.i64 (Tm.I x (6 : Nat))), DV.v (Value.int IntKind.i64 (Tm.I x (7 : Nat))), DV.v (Value.bool (Tm.B x (8 : Nat))), DV.v (Value.int IntKind.i64 (Tm.I x (9 : Nat))), DV.v (Value.int IntKind.i64 (Tm.I x (10 : Nat))), DV.v (Value.bool (Tm.B x (11 : Nat))), DV.v (Value.int IntKind.i64 (Tm.I x (12 : Nat))), DV.v (Value.int IntKind.i64 (Tm.I x (13 : Nat))), DV.v (Value.int IntKind.i64 (Tm.I x (14 : Nat))), DV.v (Value.bool (Tm.B x (15 : Nat))), DV.v (Value.int IntKind.u8 (Tm.I x (16 : Nat))), DV.v (Value.int IntKind.u8 (Tm.I x (17 : Nat))), DV.v (Value.int IntKind.i64 (Tm.I x (18 : Nat))), DV.v (Value.int IntKind.i64 (Tm.I x (19 : Nat))), DV.v (Value.int IntKind.i64 (Tm.I x (20 : Nat))), DV.v (Value.int IntKind.i64 (Tm.I x (21 : Nat))), DV.v (Value.bool (Tm.B x (22 : Nat))), DV.v (Value.bool (Tm.B x (23 : Nat))), DV.v (Value.bool (Tm.B x (24 : Nat))), DV.v (Value.bool (Tm.B x (25 : Nat))), DV.v (Value.bool (Tm.B x (26 : Nat))), DV.v (Value.bool (Tm.B x (27 : Nat))), DV.v (Value.bool (Tm.B x (28 : Nat))), DV.v (Value.bool (Tm.B x (29 : Nat))), DV.v (Value.int IntKind.u8 (Tm.I x (30 : Nat))), DV.v (Value.int IntKind.u8 (Tm.I x (31 : Nat))), DV.v (Value.int IntKind.i64 (Tm.I x (32 : Nat))), DV.v (Value.int IntKind.i64 (Tm.I x (33 : Nat))), DV.v (Value.int IntKind.i64 (Tm.I x (34 : Nat))), DV.sl false (fun a a_1 => DV.v (Value.bool (Tm.tb x a))) (1 : Nat) (Tm.tn x), DV.sl false (fun a a_1 => DV.sl (Tm.bT x a) (Row.cell (Tm.bR x a)) (5 : Nat) (Row.n (Tm.bR x a))) (1 : Nat) (Tm.bn x), DV.v (Value.int IntKind.i64 (Tm.I x (37 : Nat))), DV.v (Value.string (Tm.S x (38 : Nat))), DV.v (Value.string (Tm.S x (39 : Nat))), DV.v (Value.string (Tm.S x (40 : Nat))), DV.v (Value.string (Tm.S x (41 : Nat)))]] }] [DV.po (0 : Nat) (0 : Nat) (0 : Nat), DV.v (Value.int IntKind.i64 (0 : Int))] [some { k := (42 : Nat), c := DC.lst [[DV.v (Value.int IntKind.i64 (Tm.I x (0 : Nat))), DV.v (Value.int IntKind.i64 (Tm.I x (1 : Nat))), DV.sl false (fun a a_1 => DV.sl (Tm.gT x a) (Row.cell (Tm.gR x a)) (5 : Nat) (Row.n (Tm.gR x a))) (1 : Nat) (Tm.gn x), DV.v (Value.int IntKind.i64 (Tm.I x (3 : Nat))), DV.v (Value.int IntKind.i64 (Tm.I x (4 : Nat))), DV.sl false (fun a a_1 => DV.sl (Tm.oT x a) (Row.cell (Tm.oR x a)) (5 : Nat) (Row.n (Tm.oR x a))) (1 : Nat) (Tm.on x), DV.v (Value.int IntKind.i64 (Tm.I x (6 : Nat))), DV.v (Value.int IntKind.i64 (Tm.I x (7 : Nat))), DV.v (Value.bool (Tm.B x (8 : Nat))), DV.v (Value.int IntKind.i64 (Tm.I x (9 : Nat))), DV.v (Value.int IntKind.i64 (Tm.I x (10 : Nat))), DV.v (Value.bool (Tm.B x (11 : Nat))), DV.v (Value.int IntKind.i64 (Tm.I x (12 : Nat))), DV.v (Value.int IntKind.i64 (Tm.I x (13 : Nat))), DV.v (Value.int IntKind.i64 (Tm.I x (14 : Nat))), DV.v (Value.bool (Tm.B x (15 : Nat))), DV.v (Value.int IntKind.u8 (Tm.I x (16 : Nat))), DV.v (Value.int IntKind.u8 (Tm.I x (17 : Nat))), DV.v (Value.int IntKind.i64 (Tm.I x (18 : Nat))), DV.v (Value.int IntKind.i64 (Tm.I x (19 : Nat))), DV.v (Value.int IntKind.i64 (Tm.I x (20 : Nat))), DV.v (Value.int IntKind.i64 (Tm.I x (21 : Nat))), DV.v (Value.bool (Tm.B x (22 : Nat))), DV.v (Value.bool (Tm.B x (23 : Nat))), DV.v (Value.bool (Tm.B x (24 : Nat))), DV.v (Value.bool (Tm.B x (25 : Nat))), DV.v (Value.bool (Tm.B x (26 : Nat))), DV.v (Value.bool (Tm.B x (27 : Nat))), DV.v (Value.bool (Tm.B x (28 : Nat))), DV.v (Value.bool (Tm.B x (29 : Nat))), DV.v (Value.int IntKind.u8 (Tm.I x (30 : Nat))), DV.v (Value.int IntKind.u8 (Tm.I x (31 : Nat))), DV.v (Value.int IntKind.i64 (Tm.I x (32 : Nat))), DV.v (Value.int IntKind.i64 (Tm.I x (33 : Nat))), DV.v (Value.int IntKind.i64 (Tm.I x (34 : Nat))), DV.sl false (fun a a_1 => DV.v (Value.bool (Tm.tb x a))) (1 : Nat) (Tm.tn x), DV.sl false (fun a a_1 => DV.sl (Tm.bT x a) (Row.cell (Tm.bR x a)) (5 : Nat) (Row.n (Tm.bR x a))) (1 : Nat) (Tm.bn x), DV.v (Value.int IntKind.i64 (Tm.I x (37 : Nat))), DV.v (Value.string (Tm.S x (38 : Nat))), DV.v (Value.string (Tm.S x (39 : Nat))), DV.v (Value.string (Tm.S x (40 : Nat))), DV.v (Value.string (Tm.S x (41 : Nat)))]] }])
    then bif holds (longF (Tm.oR x) (Tm.on x - (0 : Nat)) (0 : Nat) = true) then k (DV.v (Value.bool false)) else k (DV.v (Value.bool true)) else none else k (DV.v (Value.bool true)) else none else k (DV.v (Value.bool true))
    else none := by
  kernel_rfl
/-- Whether a terminal is greater than the statements use. -/
def greatF (x : Tm) : Bool :=

  bif decide (x.I 0 > 20) then true else
  bif decide (x.I 1 > 8) then true else
  bif decide (x.I 3 > 20) then true else
  bif decide (x.I 4 > 8) then true else
  bif decide ((x.gn : Int) > 8) then true else
  bif decide ((x.on : Int) > 8) then true else
  bif decide ((x.bn : Int) > 30) then true else
  bif decide ((x.tn : Int) > 200) then true else
  bif decide (((x.S 40).size : Int) > 300) then true else
  bif decide (((x.S 41).size : Int) > 1100) then true else
  bif longF x.bR x.bn 0 then (bif longF x.gR x.gn 0 then (bif longF x.oR x.on 0 then false else true) else true) else true
theorem gt_true (x : Tm) : bodyD Tryz.prog (env [] (lpOf [(58, (gtI x x.bR x.bn 3 0).g), (122, (gtI x x.gR x.gn 4 2).g), (250, (gtI x x.oR x.on 5 4).g)]) 0) Tryz.f9 [.agg x.cells] [] (fun d _ => isD (bv (greatF x)) d) = some () := by
  refine (gt_tree x _).trans ?_
  unfold greatF
  refine dS (fun h => isD_of ?_) fun h0 => ?_
  · rw [decide_eq_true h]; rfl
  rw [decide_eq_false h0, cond_false]
  refine dS (fun h => isD_of ?_) fun h1 => ?_
  · rw [decide_eq_true h]; rfl
  rw [decide_eq_false h1, cond_false]
  refine dS (fun h => isD_of ?_) fun h2 => ?_
  · rw [decide_eq_true h]; rfl
  rw [decide_eq_false h2, cond_false]
  refine dS (fun h => isD_of ?_) fun h3 => ?_
  · rw [decide_eq_true h]; rfl
  rw [decide_eq_false h3, cond_false]
  refine dS (fun h => isD_of ?_) fun h4 => ?_
  · rw [decide_eq_true h]; rfl
  rw [decide_eq_false h4, cond_false]
  refine dS (fun h => isD_of ?_) fun h5 => ?_
  · rw [decide_eq_true h]; rfl
  rw [decide_eq_false h5, cond_false]
  refine dS (fun h => isD_of ?_) fun h6 => ?_
  · rw [decide_eq_true h]; rfl
  rw [decide_eq_false h6, cond_false]
  refine dS (fun h => isD_of ?_) fun h7 => ?_
  · rw [decide_eq_true h]; rfl
  rw [decide_eq_false h7, cond_false]
  refine dS (fun h => isD_of ?_) fun h8 => ?_
  · rw [decide_eq_true h]; rfl
  rw [decide_eq_false h8, cond_false]
  refine dS (fun h => isD_of ?_) fun h9 => ?_
  · rw [decide_eq_true h]; rfl
  rw [decide_eq_false h9, cond_false]
  refine hT ⟨Nat.zero_le _, [], wkS x.clo (.cons (.po rfl) (.cons (.v _) .nil))⟩ ?_
  cases hb : longF x.bR x.bn 0 with
  | false => exact hF (by decide) (isD_of rfl)
  | true =>
  refine hT rfl ?_
  refine hT ⟨Nat.zero_le _, [], wkS x.clo (.cons (.po rfl) (.cons (.v _) .nil))⟩ ?_
  cases hg : longF x.gR x.gn 0 with
  | false => exact hF (by decide) (isD_of rfl)
  | true =>
  refine hT rfl ?_
  refine hT ⟨Nat.zero_le _, [], wkS x.clo (.cons (.po rfl) (.cons (.v _) .nil))⟩ ?_
  cases ho : longF x.oR x.on 0 with
  | false => exact hF (by decide) (isD_of rfl)
  | true =>
  refine hT rfl ?_
  exact isD_of rfl
/-! ### Their contracts -/
noncomputable def tmC (x : Tm) (b : Bool) : ConF := fun args k => match args with
  | [.agg l] => bif holds (l = x.cells) then k (fun _ => (bv b, [])) else none
  | _ => none
theorem ppC_ok {st : AE.Stat} (hx : ∀ f, f ≠ 5 → f ≠ 22 → ∀ a σ, st.ext f a σ = none) (x : Tm) (hok : x.ok) : ConOk Tryz.prog st 10 (tmC x (properF x)) := by
  refine con_flat (mg := []) (l := prL check8 insF rgtF setF validF) (lp := lpOf [(506, (ppI x).g)]) (n := 0) (glOk st) (fun x h => ?_) Tryz.func10 (by kernel_rfl) (by kernel_rfl) (hx 10 (by decide) (by decide)) (lp_one (by kernel_rfl) (pp_ls hx x hok)) fun args k hk => ?_
  · simp only [prL, List.mem_cons, List.not_mem_nil, or_false] at h
    rcases h with rfl | rfl | rfl | rfl | rfl
    · exact gcC_ok hx
    · exact isC_ok hx
    · exact riC_ok hx
    · exact seC_ok hx
    · exact vaC_ok hx
  unfold tmC at hk
  split at hk <;> first | (cases hk; done) | skip
  obtain ⟨hb, hk2⟩ := bif_none hk
  obtain rfl := holds_eq.1 hb
  exact ⟨_, _, .self .nil, v_clo _, hk2, pp_true x hok⟩
theorem gtC_ok {st : AE.Stat} (hx : ∀ f, f ≠ 5 → f ≠ 22 → ∀ a σ, st.ext f a σ = none) (x : Tm) (hok : x.ok) : ConOk Tryz.prog st 9 (tmC x (greatF x)) := by
  refine con_flat (mg := []) (l := []) (lp := lpOf [(58, (gtI x x.bR x.bn 3 0).g), (122, (gtI x x.gR x.gn 4 2).g), (250, (gtI x x.oR x.on 5 4).g)]) (n := 0) (glOk st) (fun _ h => nomatch h) Tryz.func9 (by kernel_rfl) (by kernel_rfl) (hx 9 (by decide) (by decide)) (lp_table fun e he => ?_) fun args k hk => ?_
  · simp only [List.mem_cons, List.not_mem_nil, or_false] at he
    rcases he with rfl | rfl | rfl
    · exact ⟨_, by kernel_rfl, gt_ls58 x hok.2.2.1.1⟩
    · exact ⟨_, by kernel_rfl, gt_ls122 x hok.1.1⟩
    · exact ⟨_, by kernel_rfl, gt_ls250 x hok.2.1.1⟩
  unfold tmC at hk
  split at hk <;> first | (cases hk; done) | skip
  obtain ⟨hb, hk2⟩ := bif_none hk
  obtain rfl := holds_eq.1 hb
  exact ⟨_, _, .self .nil, v_clo _, hk2, gt_true x⟩
end Go.Proofs.YtabchbchopgnfaaGreatDoor
