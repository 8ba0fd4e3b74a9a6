/-
 The contracts of the reference's Proper and Great, for one terminal (their bodies).
 Conditions: none beyond those of the contracts.

 The contract of the laws' 'fine', for one terminal.
 Conditions: none beyond those of the contracts.
-/
import Derived.Test.YtfdldnomelnbgaaGreatDoorJGrid
namespace Go.Proofs.YtfdldnomelnbgaaGreatDoor
open Go Go.AE Go.DE Go.RowKit

noncomputable abbrev prL (A : Int → Int → (Nat → Row) → Nat → Int) (N : Int → Int → Bool → Int → Int → Bool) (Q : Int → Int → Int → Int) (U : Int → Int → Int → Bool) (V : ByteArray → Bool) : List (FuncId × ConF) := [(45, gcC A), (46, isC N), (47, riC Q), (48, seC U), (49, vaG V)]
theorem pp_tree (A : Int → Int → (Nat → Row) → Nat → Int) (N : Int → Int → Bool → Int → Int → Bool) (Q : Int → Int → Int → Int) (U : Int → Int → Int → Bool) (V : ByteArray → Bool) (x : Tm) (k : DV → Option Unit) : bodyD Tryz.prog (env (prL A N Q U V) (lpOf [(506, (ppI x).g)]) 0) Tryz.f14 [.agg x.cells] [] (fun d _ => k d) =
  bif holds (Nat.le x.gn 9000000 ∧ ∀ (i : Nat), i < x.gn → DV.sl (x.gT i) (Row.cell (x.gR i)) 5 (Row.n (x.gR i)) = DV.sl (slT (.sl (x.gT i) (Row.cell (x.gR i)) 5 (Row.n (x.gR i)))) (slG (.sl (x.gT i) (Row.cell (x.gR i)) 5 (Row.n (x.gR i)))) 5 (slN (.sl (x.gT i) (Row.cell (x.gR i)) 5 (Row.n (x.gR i)))) ∧ Nat.le (slN (.sl (x.gT i) (Row.cell (x.gR i)) 5 (Row.n (x.gR i)))) 9000000 ∧ ∀ (i_1 : Nat), i_1 < slN (.sl (x.gT i) (Row.cell (x.gR i)) 5 (Row.n (x.gR i))) → sv (Row.tx (x.gR i) i_1) = sv (strD (sv (Row.tx (x.gR i) i_1))) ∧ Nat.le (ByteArray.size (strD (sv (Row.tx (x.gR i) i_1)))) 9000000 ∧ iv (Row.wd (x.gR i) i_1) = iv (numD (iv (Row.wd (x.gR i) i_1))) ∧ iv (Row.fo (x.gR i) i_1) = iv (numD (iv (Row.fo (x.gR i) i_1))) ∧ iv (Row.ba (x.gR i) i_1) = iv (numD (iv (Row.ba (x.gR i) i_1))) ∧ iv (Row.fl (x.gR i) i_1) = iv (numD (iv (Row.fl (x.gR i) i_1))))
  then bif A (x.I 0) (x.I 1) (fun i => { n := slN (.sl (x.gT i) (Row.cell (x.gR i)) 5 (Row.n (x.gR i))), tx := fun j => strD (sv (Row.tx (x.gR i) j)), wd := fun j => numD (iv (Row.wd (x.gR i) j)), fo := fun j => numD (iv (Row.fo (x.gR i) j)), ba := fun j => numD (iv (Row.ba (x.gR i) j)), fl := fun j => numD (iv (Row.fl (x.gR i) j)) }) x.gn != 0
  then k (bv false) else bif holds (Nat.le x.on 9000000 ∧ ∀ (i : Nat), i < x.on → DV.sl (x.oT i) (Row.cell (x.oR i)) 5 (Row.n (x.oR i)) = DV.sl (slT (.sl (x.oT i) (Row.cell (x.oR i)) 5 (Row.n (x.oR i)))) (slG (.sl (x.oT i) (Row.cell (x.oR i)) 5 (Row.n (x.oR i)))) 5 (slN (.sl (x.oT i) (Row.cell (x.oR i)) 5 (Row.n (x.oR i)))) ∧ Nat.le (slN (.sl (x.oT i) (Row.cell (x.oR i)) 5 (Row.n (x.oR i)))) 9000000 ∧ ∀ (i_1 : Nat), i_1 < slN (.sl (x.oT i) (Row.cell (x.oR i)) 5 (Row.n (x.oR i))) → sv (Row.tx (x.oR i) i_1) = sv (strD (sv (Row.tx (x.oR i) i_1))) ∧ Nat.le (ByteArray.size (strD (sv (Row.tx (x.oR i) i_1)))) 9000000 ∧ iv (Row.wd (x.oR i) i_1) = iv (numD (iv (Row.wd (x.oR i) i_1))) ∧ iv (Row.fo (x.oR i) i_1) = iv (numD (iv (Row.fo (x.oR i) i_1))) ∧ iv (Row.ba (x.oR i) i_1) = iv (numD (iv (Row.ba (x.oR i) i_1))) ∧ iv (Row.fl (x.oR i) i_1) = iv (numD (iv (Row.fl (x.oR i) i_1))))
  then bif A (x.I 3) (x.I 4) (fun i => { n := slN (.sl (x.oT i) (Row.cell (x.oR i)) 5 (Row.n (x.oR i))), tx := fun j => strD (sv (Row.tx (x.oR i) j)), wd := fun j => numD (iv (Row.wd (x.oR i) j)), fo := fun j => numD (iv (Row.fo (x.oR i) j)), ba := fun j => numD (iv (Row.ba (x.oR i) j)), fl := fun j => numD (iv (Row.fl (x.oR i) j)) }) x.on != 0
  then k (bv false) else bif x.I 0 != x.I 3 then k (bv false) else bif x.I 1 != x.I 4 then k (bv false) else bif !N (x.I 6) (x.I 7) (x.B 8) (x.I 0) (x.I 1) then k (bv false) else bif !N (x.I 9) (x.I 10) (x.B 11) (x.I 0) (x.I 1)
  then k (bv false) else bif Q (x.I 19) (x.I 20) (x.I 21) == 0 then k (bv false) else bif Q (x.I 12) (x.I 13) (x.I 14) == 0 then k (bv false) else bif !U (x.I 30) (x.I 31) (x.I 32) then k (bv false)
  else bif !U (x.I 16) (x.I 17) (x.I 18) then k (bv false) else bif decide (x.I 33 < 0) then k (bv false) else bif decide (x.I 33 ≥ x.I 34) then k (bv false) else bif decide (x.I 34 > x.I 1) then k (bv false)
  else bif (x.tn : Int) != x.I 0 then k (bv false) else bif decide ((x.bn : Int) > 500) then k (bv false) else bif decide (ByteArray.size (x.S 40) ≤ 9000000) then bif !V (x.S 40) then k (bv false) else
  bif holds (Nat.le 0 x.bn ∧ ∃ ids, WkP (LInv.m (ppI x)) ids [.po 0 0 0, iv 0] [some ⟨42, .lst [x.cells]⟩] [.po 0 0 0, iv 0] [some ⟨42, .lst [x.cells]⟩]) then bif holds (backF x.bR (x.bn - 0) 0 = true)
  then k (bv true) else k (bv false) else none else none else none else none := by
 kernel_rfl
/-- The reference's test of a terminal. -/
def properF (x : Tm) : Bool :=

 bif check8 (x.I 0) (x.I 1) x.gR x.gn != 0 then false else
 bif check8 (x.I 3) (x.I 4) x.oR x.on != 0 then false else
 bif x.I 0 != x.I 3 then false else
 bif x.I 1 != x.I 4 then false else
 bif !insF (x.I 6) (x.I 7) (x.B 8) (x.I 0) (x.I 1) then false else
 bif !insF (x.I 9) (x.I 10) (x.B 11) (x.I 0) (x.I 1) then false else
 bif rgtF (x.I 19) (x.I 20) (x.I 21) == 0 then false else
 bif rgtF (x.I 12) (x.I 13) (x.I 14) == 0 then false else
 bif !setF (x.I 30) (x.I 31) (x.I 32) then false else
 bif !setF (x.I 16) (x.I 17) (x.I 18) then false else
 bif decide (x.I 33 < 0) then false else
 bif decide (x.I 33 ≥ x.I 34) then false else
 bif decide (x.I 34 > x.I 1) then false else
 bif (x.tn : Int) != x.I 0 then false else
 bif decide ((x.bn : Int) > 500) then false else
 bif !validF (x.S 40) then false else
 backF x.bR x.bn 0
theorem pp_true (x : Tm) (hok : x.ok) : bodyD Tryz.prog (env (prL check8 insF rgtF setF validF) (lpOf [(506, (ppI x).g)]) 0) Tryz.f14 [.agg x.cells] [] (fun d _ => isD (bv (properF x)) d) = some () := by
 refine (pp_tree check8 insF rgtF setF validF x _).trans ?_
 unfold properF
 refine hT ⟨hok.1.1, fun i hi => isRow_of (hok.1.2 i hi)⟩ ?_
 refine cS (fun h => isD_of ?_) fun h => ?_
 ·have h : (check8 (x.I 0) (x.I 1) x.gR x.gn != 0) = true := h
  rw [h]; rfl
 have h0 : (check8 (x.I 0) (x.I 1) x.gR x.gn != 0) = false := h
 rw [h0, cond_false]
 clear h
 refine hT ⟨hok.2.1.1, fun i hi => isRow_of (hok.2.1.2 i hi)⟩ ?_
 refine cS (fun h => isD_of ?_) fun h => ?_
 ·have h : (check8 (x.I 3) (x.I 4) x.oR x.on != 0) = true := h
  rw [h]; rfl
 have h1 : (check8 (x.I 3) (x.I 4) x.oR x.on != 0) = false := h
 rw [h1, cond_false]
 clear h
 refine cS (fun h => isD_of ?_) fun h => ?_
 ·have h : (x.I 0 != x.I 3) = true := h
  rw [h]; rfl
 have h2 : (x.I 0 != x.I 3) = false := h
 rw [h2, cond_false]
 clear h
 refine cS (fun h => isD_of ?_) fun h => ?_
 ·have h : (x.I 1 != x.I 4) = true := h
  rw [h]; rfl
 have h3 : (x.I 1 != x.I 4) = false := h
 rw [h3, cond_false]
 clear h
 refine cS (fun h => isD_of ?_) fun h => ?_
 ·have h : (!insF (x.I 6) (x.I 7) (x.B 8) (x.I 0) (x.I 1)) = true := h
  rw [h]; rfl
 have h4 : (!insF (x.I 6) (x.I 7) (x.B 8) (x.I 0) (x.I 1)) = false := h
 rw [h4, cond_false]
 clear h
 refine cS (fun h => isD_of ?_) fun h => ?_
 ·have h : (!insF (x.I 9) (x.I 10) (x.B 11) (x.I 0) (x.I 1)) = true := h
  rw [h]; rfl
 have h5 : (!insF (x.I 9) (x.I 10) (x.B 11) (x.I 0) (x.I 1)) = false := h
 rw [h5, cond_false]
 clear h
 refine cS (fun h => isD_of ?_) fun h => ?_
 ·have h : (rgtF (x.I 19) (x.I 20) (x.I 21) == 0) = true := h
  rw [h]; rfl
 have h6 : (rgtF (x.I 19) (x.I 20) (x.I 21) == 0) = false := h
 rw [h6, cond_false]
 clear h
 refine cS (fun h => isD_of ?_) fun h => ?_
 ·have h : (rgtF (x.I 12) (x.I 13) (x.I 14) == 0) = true := h
  rw [h]; rfl
 have h7 : (rgtF (x.I 12) (x.I 13) (x.I 14) == 0) = false := h
 rw [h7, cond_false]
 clear h
 refine cS (fun h => isD_of ?_) fun h => ?_
 ·have h : (!setF (x.I 30) (x.I 31) (x.I 32)) = true := h
  rw [h]; rfl
 have h8 : (!setF (x.I 30) (x.I 31) (x.I 32)) = false := h
 rw [h8, cond_false]
 clear h
 refine cS (fun h => isD_of ?_) fun h => ?_
 ·have h : (!setF (x.I 16) (x.I 17) (x.I 18)) = true := h
  rw [h]; rfl
 have h9 : (!setF (x.I 16) (x.I 17) (x.I 18)) = false := h
 rw [h9, cond_false]
 clear h
 refine dS (fun h => isD_of ?_) fun h10 => ?_
 ·rw [decide_eq_true h]; rfl
 rw [decide_eq_false h10, cond_false]
 refine dS (fun h => isD_of ?_) fun h11 => ?_
 ·rw [decide_eq_true h]; rfl
 rw [decide_eq_false h11, cond_false]
 refine dS (fun h => isD_of ?_) fun h12 => ?_
 ·rw [decide_eq_true h]; rfl
 rw [decide_eq_false h12, cond_false]
 refine cS (fun h => isD_of ?_) fun h => ?_
 ·have h : ((x.tn : Int) != x.I 0) = true := h
  rw [h]; rfl
 have h13 : ((x.tn : Int) != x.I 0) = false := h
 rw [h13, cond_false]
 clear h
 refine dS (fun h => isD_of ?_) fun h14 => ?_
 ·rw [decide_eq_true h]; rfl
 rw [decide_eq_false h14, cond_false]
 refine dT hok.2.2.2.2.1 ?_
 refine cS (fun h => isD_of ?_) fun h => ?_
 ·have h : (!validF (x.S 40)) = true := h
  rw [h]; rfl
 have h15 : (!validF (x.S 40)) = false := h
 rw [h15, cond_false]
 clear h
 refine hT ⟨Nat.zero_le _, [], wkS x.clo (.cons (.po rfl) (.cons (.v _) .nil))⟩ ?_
 cases hb : backF x.bR x.bn 0 with
 | true => exact hT rfl (isD_of rfl)
 | false => exact hF (by decide) (isD_of rfl)
/-! ### Great -/
def longF (R : Nat → Row) : Nat → Nat → Bool
 | 0, _ => true
 | m + 1, i => bif decide (((R i).n : Int) > 200) then false else longF R m (i + 1)
noncomputable def gtI (x : Tm) (R : Nat → Row) (n tv ex : Nat) : LInv Nat where
 pre i := i ≤ n
 m := 1
 n := 112
 ps := [1, tv]
 sd i := [.po 0 0 0, iv (i : Int)]
 sh _ := [some ⟨42, .lst [x.cells]⟩]
 meas i := n - i
 e i := match longF R (n - i) i with
  | true => .exit ex
  | false => .ret
 qs := [1, 2]
 od i := match longF R (n - i) i with
  | true => [.po 0 0 0, .any]
  | false => [.any, bv true]
 oh i := match longF R (n - i) i with
  | true => [some ⟨42, .lst [x.cells]⟩]
  | false => [none]
 guess _ _ := some 0
 cps i k := bif holds (longF R (n - i) i = true) then k (.exit ex) [.po 0 0 0, .any] [some ⟨42, .lst [x.cells]⟩] else k .ret [.any, bv true] [none]
theorem gt_cps {x : Tm} {R : Nat → Row} {n tv ex i : Nat} {k : Ex → List DV → DHeap → Option Unit} (h : (gtI x R n tv ex).cps i k = some ()) : k ((gtI x R n tv ex).e i) ((gtI x R n tv ex).od i) ((gtI x R n tv ex).oh i) = some () := by
 simp only [gtI] at h ⊢
 rcases bif_some h with ⟨h1, h2⟩ | ⟨h1, h2⟩
 ·rw [holds_eq.1 h1]; exact h2
 ·have h1 : longF R (n - i) i = false := by
   cases hb : longF R (n - i) i with
   | true => rw [hb, holds_eq.2 rfl] at h1; cases h1
   | false => rfl
  rw [h1]; exact h2
theorem gt_loop58 (x : Tm) (i : Nat) (K : Ex → Nat → List DV → List DV → DHeap → Option Unit) : execD Tryz.prog (env [] noLp 0) (loopAt Tryz.f13 58) 500 (temps 112 [1, 3] [.po 0 0 0, iv i]) [some ⟨42, .lst [x.cells]⟩] (fun e τ σ => K e τ.length (pick [1, 3] τ) (pick [1, 2] τ) σ) =
  bif decide ((i : Int) < (x.bn : Int)) then bif decide ((i : Int) < (x.bn : Int)) then bif decide (tN i < x.bn) then bif decide ((↑(Row.n (x.bR (tN i))) : Int) > 200) then K .ret 112 [.po 0 0 0, iv (i : Int)] [.po 0 0 0, bv true] [some ⟨42, .lst [x.cells]⟩]
  else K .normal 112 [.po 0 0 0, iv (IntKind.wrap .i64 ((i : Int) + 1))] [.po 0 0 0, DV.any] [some ⟨42, .lst [x.cells]⟩] else none else none else K (.exit 0) 112 [.po 0 0 0, iv (i : Int)] [.po 0 0 0, DV.any] [some ⟨42, .lst [x.cells]⟩] := by
 kernel_rfl
theorem gt_ls58 {st : AE.Stat} (x : Tm) (hn : x.bn ≤ 9000000) : LoopS Tryz.prog st gl0 (.loop (loopAt Tryz.f13 58)) (gtI x x.bR x.bn 3 0).g := by
 refine (gtI x x.bR x.bn 3 0).ok (E := env [] noLp 0) (p := 500) (tblD_env (l := []) fun _ h => nomatch h) (glOk st).1 (fun _ _ _ h => nomatch h) (fun i k h => gt_cps h) fun i hi => ?_
 have hi : i ≤ x.bn := hi
 refine (gt_loop58 x i _).trans ?_
 simp only [Int.toNat_natCast, Nat.add_zero]
 refine dS (fun hlt => ?_) fun hge => ?_
 ·have hlt : i < x.bn := by omega
  have e : x.bn - i = (x.bn - (i + 1)) + 1 := by omega
  have hW : IntKind.i64.wrap ((i : Int) + 1) = ((i + 1 : Nat) : Int) := by rw [W_in (by omega) (by omega)]; omega
  rw [hW]
  have hq : longF x.bR (x.bn - i) i = bif decide (((x.bR i).n : Int) > 200) then false else longF x.bR (x.bn - (i + 1)) (i + 1) := by rw [e, longF]
  refine dT (by omega) (dT hlt (dS (fun h2 => ?_) fun h2 => ?_))
  ·rw [decide_eq_true h2, cond_true] at hq
   refine LInv.ask_of ⟨rfl, ?_, [], ?_⟩
   ·simp only [gtI]; rw [hq]
   ·simp only [gtI]; rw [hq]; exact wkN (.cons (.any _) (.cons (.v _) .nil))
  ·rw [decide_eq_false h2, cond_false] at hq
   refine LInv.ask_of ⟨rfl, i + 1, ⟨?_, ?_, ?_, hlt⟩, ?_, [], wkS x.clo (.cons (.po rfl) (.cons (.v _) .nil))⟩
   ·simp only [gtI]; rw [hq]
   ·simp only [gtI]; rw [hq]
   ·simp only [gtI]; rw [hq]
   ·simp only [gtI]; omega
 ·have hr : longF x.bR (x.bn - i) i = true := by
   have : x.bn - i = 0 := by omega
   rw [this, longF]
  refine LInv.ask_of ⟨rfl, ?_, [], ?_⟩
  ·simp only [gtI]; rw [hr]
  ·simp only [gtI]; rw [hr]; exact wkS x.clo (.cons (.po rfl) (.cons (.any _) .nil))
theorem gt_loop122 (x : Tm) (i : Nat) (K : Ex → Nat → List DV → List DV → DHeap → Option Unit) : execD Tryz.prog (env [] noLp 0) (loopAt Tryz.f13 122) 500 (temps 112 [1, 4] [.po 0 0 0, iv i]) [some ⟨42, .lst [x.cells]⟩] (fun e τ σ => K e τ.length (pick [1, 4] τ) (pick [1, 2] τ) σ) =
  bif decide ((i : Int) < (x.gn : Int)) then bif decide ((i : Int) < (x.gn : Int)) then bif decide (tN i < x.gn) then bif decide ((↑(Row.n (x.gR (tN i))) : Int) > 200) then K .ret 112 [.po 0 0 0, iv (i : Int)] [.po 0 0 0, bv true] [some ⟨42, .lst [x.cells]⟩]
  else K .normal 112 [.po 0 0 0, iv (IntKind.wrap .i64 ((i : Int) + 1))] [.po 0 0 0, DV.any] [some ⟨42, .lst [x.cells]⟩] else none else none else K (.exit 2) 112 [.po 0 0 0, iv (i : Int)] [.po 0 0 0, DV.any] [some ⟨42, .lst [x.cells]⟩] := by
 kernel_rfl
theorem gt_ls122 {st : AE.Stat} (x : Tm) (hn : x.gn ≤ 9000000) : LoopS Tryz.prog st gl0 (.loop (loopAt Tryz.f13 122)) (gtI x x.gR x.gn 4 2).g := by
 refine (gtI x x.gR x.gn 4 2).ok (E := env [] noLp 0) (p := 500) (tblD_env (l := []) fun _ h => nomatch h) (glOk st).1 (fun _ _ _ h => nomatch h) (fun i k h => gt_cps h) fun i hi => ?_
 have hi : i ≤ x.gn := hi
 refine (gt_loop122 x i _).trans ?_
 simp only [Int.toNat_natCast, Nat.add_zero]
 refine dS (fun hlt => ?_) fun hge => ?_
 ·have hlt : i < x.gn := by omega
  have e : x.gn - i = (x.gn - (i + 1)) + 1 := by omega
  have hW : IntKind.i64.wrap ((i : Int) + 1) = ((i + 1 : Nat) : Int) := by rw [W_in (by omega) (by omega)]; omega
  rw [hW]
  have hq : longF x.gR (x.gn - i) i = bif decide (((x.gR i).n : Int) > 200) then false else longF x.gR (x.gn - (i + 1)) (i + 1) := by rw [e, longF]
  refine dT (by omega) (dT hlt (dS (fun h2 => ?_) fun h2 => ?_))
  ·rw [decide_eq_true h2, cond_true] at hq
   refine LInv.ask_of ⟨rfl, ?_, [], ?_⟩
   ·simp only [gtI]; rw [hq]
   ·simp only [gtI]; rw [hq]; exact wkN (.cons (.any _) (.cons (.v _) .nil))
  ·rw [decide_eq_false h2, cond_false] at hq
   refine LInv.ask_of ⟨rfl, i + 1, ⟨?_, ?_, ?_, hlt⟩, ?_, [], wkS x.clo (.cons (.po rfl) (.cons (.v _) .nil))⟩
   ·simp only [gtI]; rw [hq]
   ·simp only [gtI]; rw [hq]
   ·simp only [gtI]; rw [hq]
   ·simp only [gtI]; omega
 ·have hr : longF x.gR (x.gn - i) i = true := by
   have : x.gn - i = 0 := by omega
   rw [this, longF]
  refine LInv.ask_of ⟨rfl, ?_, [], ?_⟩
  ·simp only [gtI]; rw [hr]
  ·simp only [gtI]; rw [hr]; exact wkS x.clo (.cons (.po rfl) (.cons (.any _) .nil))
theorem gt_loop250 (x : Tm) (i : Nat) (K : Ex → Nat → List DV → List DV → DHeap → Option Unit) : execD Tryz.prog (env [] noLp 0) (loopAt Tryz.f13 250) 500 (temps 112 [1, 5] [.po 0 0 0, iv i]) [some ⟨42, .lst [x.cells]⟩] (fun e τ σ => K e τ.length (pick [1, 5] τ) (pick [1, 2] τ) σ) =
  bif decide ((i : Int) < (x.on : Int)) then bif decide ((i : Int) < (x.on : Int)) then bif decide (tN i < x.on) then bif decide ((↑(Row.n (x.oR (tN i))) : Int) > 200) then K .ret 112 [.po 0 0 0, iv (i : Int)] [.po 0 0 0, bv true] [some ⟨42, .lst [x.cells]⟩]
  else K .normal 112 [.po 0 0 0, iv (IntKind.wrap .i64 ((i : Int) + 1))] [.po 0 0 0, DV.any] [some ⟨42, .lst [x.cells]⟩] else none else none else K (.exit 4) 112 [.po 0 0 0, iv (i : Int)] [.po 0 0 0, DV.any] [some ⟨42, .lst [x.cells]⟩] := by
 kernel_rfl
theorem gt_ls250 {st : AE.Stat} (x : Tm) (hn : x.on ≤ 9000000) : LoopS Tryz.prog st gl0 (.loop (loopAt Tryz.f13 250)) (gtI x x.oR x.on 5 4).g := by
 refine (gtI x x.oR x.on 5 4).ok (E := env [] noLp 0) (p := 500) (tblD_env (l := []) fun _ h => nomatch h) (glOk st).1 (fun _ _ _ h => nomatch h) (fun i k h => gt_cps h) fun i hi => ?_
 have hi : i ≤ x.on := hi
 refine (gt_loop250 x i _).trans ?_
 simp only [Int.toNat_natCast, Nat.add_zero]
 refine dS (fun hlt => ?_) fun hge => ?_
 ·have hlt : i < x.on := by omega
  have e : x.on - i = (x.on - (i + 1)) + 1 := by omega
  have hW : IntKind.i64.wrap ((i : Int) + 1) = ((i + 1 : Nat) : Int) := by rw [W_in (by omega) (by omega)]; omega
  rw [hW]
  have hq : longF x.oR (x.on - i) i = bif decide (((x.oR i).n : Int) > 200) then false else longF x.oR (x.on - (i + 1)) (i + 1) := by rw [e, longF]
  refine dT (by omega) (dT hlt (dS (fun h2 => ?_) fun h2 => ?_))
  ·rw [decide_eq_true h2, cond_true] at hq
   refine LInv.ask_of ⟨rfl, ?_, [], ?_⟩
   ·simp only [gtI]; rw [hq]
   ·simp only [gtI]; rw [hq]; exact wkN (.cons (.any _) (.cons (.v _) .nil))
  ·rw [decide_eq_false h2, cond_false] at hq
   refine LInv.ask_of ⟨rfl, i + 1, ⟨?_, ?_, ?_, hlt⟩, ?_, [], wkS x.clo (.cons (.po rfl) (.cons (.v _) .nil))⟩
   ·simp only [gtI]; rw [hq]
   ·simp only [gtI]; rw [hq]
   ·simp only [gtI]; rw [hq]
   ·simp only [gtI]; omega
 ·have hr : longF x.oR (x.on - i) i = true := by
   have : x.on - i = 0 := by omega
   rw [this, longF]
  refine LInv.ask_of ⟨rfl, ?_, [], ?_⟩
  ·simp only [gtI]; rw [hr]
  ·simp only [gtI]; rw [hr]; exact wkS x.clo (.cons (.po rfl) (.cons (.any _) .nil))
theorem gt_tree (x : Tm) (k : DV → Option Unit) : bodyD Tryz.prog (env [] (lpOf [(58, (gtI x x.bR x.bn 3 0).g), (122, (gtI x x.gR x.gn 4 2).g), (250, (gtI x x.oR x.on 5 4).g)]) 0) Tryz.f13 [.agg x.cells] [] (fun d _ => k d) =
  bif decide (x.I 0 > 20) then k (bv true) else bif decide (x.I 1 > 8) then k (bv true) else bif decide (x.I 3 > 20) then k (bv true) else bif decide (x.I 4 > 8) then k (bv true) else bif decide ((x.gn : Int) > 8)
  then k (bv true) else bif decide ((x.on : Int) > 8) then k (bv true) else bif decide ((x.bn : Int) > 30) then k (bv true) else bif decide ((x.tn : Int) > 200) then k (bv true) else bif decide ((↑(ByteArray.size (x.S 40)) : Int) > 300)
  then k (bv true) else bif decide ((↑(ByteArray.size (x.S 41)) : Int) > 1100) then k (bv true) else bif holds (Nat.le 0 x.bn ∧ ∃ ids, WkP (LInv.m (gtI x x.bR x.bn 3 0)) ids [.po 0 0 0, iv 0] [some ⟨42, .lst [x.cells]⟩] [.po 0 0 0, iv 0] [some ⟨42, .lst [x.cells]⟩])
  then bif holds (longF x.bR (x.bn - 0) 0 = true) then bif holds (Nat.le 0 x.gn ∧ ∃ ids, WkP (LInv.m (gtI x x.gR x.gn 4 2)) ids [.po 0 0 0, iv 0] [some ⟨42, .lst [x.cells]⟩] [.po 0 0 0, iv 0] [some ⟨42, .lst [x.cells]⟩])
  then bif holds (longF x.gR (x.gn - 0) 0 = true) then bif holds (Nat.le 0 x.on ∧ ∃ ids, WkP (LInv.m (gtI x x.oR x.on 5 4)) ids [.po 0 0 0, iv 0] [some ⟨42, .lst [x.cells]⟩] [.po 0 0 0, iv 0] [some ⟨42, .lst [x.cells]⟩])
  then bif holds (longF x.oR (x.on - 0) 0 = true) then k (bv false) else k (bv true) else none else k (bv true) else none else k (bv true) else none := by
 kernel_rfl
/-- Whether a terminal is greater than the statements use. -/
def greatF (x : Tm) : Bool :=

 bif decide (x.I 0 > 20) then true else
 bif decide (x.I 1 > 8) then true else
 bif decide (x.I 3 > 20) then true else
 bif decide (x.I 4 > 8) then true else
 bif decide ((x.gn : Int) > 8) then true else
 bif decide ((x.on : Int) > 8) then true else
 bif decide ((x.bn : Int) > 30) then true else
 bif decide ((x.tn : Int) > 200) then true else
 bif decide (((x.S 40).size : Int) > 300) then true else
 bif decide (((x.S 41).size : Int) > 1100) then true else
 bif longF x.bR x.bn 0 then (bif longF x.gR x.gn 0 then (bif longF x.oR x.on 0 then false else true) else true) else true
theorem gt_true (x : Tm) : bodyD Tryz.prog (env [] (lpOf [(58, (gtI x x.bR x.bn 3 0).g), (122, (gtI x x.gR x.gn 4 2).g), (250, (gtI x x.oR x.on 5 4).g)]) 0) Tryz.f13 [.agg x.cells] [] (fun d _ => isD (bv (greatF x)) d) = some () := by
 refine (gt_tree x _).trans ?_
 unfold greatF
 refine dS (fun h => isD_of ?_) fun h0 => ?_
 ·rw [decide_eq_true h]; rfl
 rw [decide_eq_false h0, cond_false]
 refine dS (fun h => isD_of ?_) fun h1 => ?_
 ·rw [decide_eq_true h]; rfl
 rw [decide_eq_false h1, cond_false]
 refine dS (fun h => isD_of ?_) fun h2 => ?_
 ·rw [decide_eq_true h]; rfl
 rw [decide_eq_false h2, cond_false]
 refine dS (fun h => isD_of ?_) fun h3 => ?_
 ·rw [decide_eq_true h]; rfl
 rw [decide_eq_false h3, cond_false]
 refine dS (fun h => isD_of ?_) fun h4 => ?_
 ·rw [decide_eq_true h]; rfl
 rw [decide_eq_false h4, cond_false]
 refine dS (fun h => isD_of ?_) fun h5 => ?_
 ·rw [decide_eq_true h]; rfl
 rw [decide_eq_false h5, cond_false]
 refine dS (fun h => isD_of ?_) fun h6 => ?_
 ·rw [decide_eq_true h]; rfl
 rw [decide_eq_false h6, cond_false]
 refine dS (fun h => isD_of ?_) fun h7 => ?_
 ·rw [decide_eq_true h]; rfl
 rw [decide_eq_false h7, cond_false]
 refine dS (fun h => isD_of ?_) fun h8 => ?_
 ·rw [decide_eq_true h]; rfl
 rw [decide_eq_false h8, cond_false]
 refine dS (fun h => isD_of ?_) fun h9 => ?_
 ·rw [decide_eq_true h]; rfl
 rw [decide_eq_false h9, cond_false]
 refine hT ⟨Nat.zero_le _, [], wkS x.clo (.cons (.po rfl) (.cons (.v _) .nil))⟩ ?_
 cases hb : longF x.bR x.bn 0 with
 | false => exact hF (by decide) (isD_of rfl)
 | true =>
 refine hT rfl ?_
 refine hT ⟨Nat.zero_le _, [], wkS x.clo (.cons (.po rfl) (.cons (.v _) .nil))⟩ ?_
 cases hg : longF x.gR x.gn 0 with
 | false => exact hF (by decide) (isD_of rfl)
 | true =>
 refine hT rfl ?_
 refine hT ⟨Nat.zero_le _, [], wkS x.clo (.cons (.po rfl) (.cons (.v _) .nil))⟩ ?_
 cases ho : longF x.oR x.on 0 with
 | false => exact hF (by decide) (isD_of rfl)
 | true =>
 refine hT rfl ?_
 exact isD_of rfl
/-! ### Their contracts -/
noncomputable def tmC (x : Tm) (b : Bool) : ConF := fun args k => match args with
 | [.agg l] => bif holds (l = x.cells) then k (fun _ => (bv b, [])) else none
 | _ => none
theorem ppC_ok {st : AE.Stat} (hx : ∀ f, exA f = false → ∀ a σ, st.ext f a σ = none) (x : Tm) (hok : x.ok) : ConOk Tryz.prog st 14 (tmC x (properF x)) := by
 refine con_flat (mg := []) (l := prL check8 insF rgtF setF validF) (lp := lpOf [(506, (ppI x).g)]) (n := 0) (glOk st) (fun x h => ?_) Tryz.func14 (by kernel_rfl) (by kernel_rfl) (hx 14 rfl) (lp_one (by kernel_rfl) (pp_ls hx x hok)) fun args k hk => ?_
 ·simp only [prL, List.mem_cons, List.not_mem_nil, or_false] at h
  rcases h with rfl | rfl | rfl | rfl | rfl
  ·exact gcC_ok hx
  ·exact isC_ok hx
  ·exact riC_ok hx
  ·exact seC_ok hx
  ·exact vaC_ok hx
 unfold tmC at hk
 split at hk <;> first | (cases hk; done) | skip
 obtain ⟨hb, hk2⟩ := bif_none hk
 obtain rfl := holds_eq.1 hb
 exact ⟨_, _, .self .nil, v_clo _, hk2, pp_true x hok⟩
theorem gtC_ok {st : AE.Stat} (hx : ∀ f, exA f = false → ∀ a σ, st.ext f a σ = none) (x : Tm) (hok : x.ok) : ConOk Tryz.prog st 13 (tmC x (greatF x)) := by
 refine con_flat (mg := []) (l := []) (lp := lpOf [(58, (gtI x x.bR x.bn 3 0).g), (122, (gtI x x.gR x.gn 4 2).g), (250, (gtI x x.oR x.on 5 4).g)]) (n := 0) (glOk st) (fun _ h => nomatch h) Tryz.func13 (by kernel_rfl) (by kernel_rfl) (hx 13 rfl) (lp_table fun e he => ?_) fun args k hk => ?_
 ·simp only [List.mem_cons, List.not_mem_nil, or_false] at he
  rcases he with rfl | rfl | rfl
  ·exact ⟨_, by kernel_rfl, gt_ls58 x hok.2.2.1.1⟩
  ·exact ⟨_, by kernel_rfl, gt_ls122 x hok.1.1⟩
  ·exact ⟨_, by kernel_rfl, gt_ls250 x hok.2.1.1⟩
 unfold tmC at hk
 split at hk <;> first | (cases hk; done) | skip
 obtain ⟨hb, hk2⟩ := bif_none hk
 obtain rfl := holds_eq.1 hb
 exact ⟨_, _, .self .nil, v_clo _, hk2, gt_true x⟩
end Go.Proofs.YtfdldnomelnbgaaGreatDoor

namespace Go.Proofs.YtfdldnomelnbgaaGreatDoor
open Go Go.AE Go.DE Go.RowKit

noncomputable def fnI : LInv Unit where
 m := 1
 n := 54
 ps := [17, 18]
 sd _ := [iv 0, iv 0]
 sh _ := [none]
 meas _ := 0
 e _ := .exit 0
 qs := []
 od _ := []
 oh _ := [none]
 guess _ _ := some ()
 cps _ k := k (.exit 0) [] [none]
theorem fn_loop (K : Ex → Nat → List DV → List DV → DHeap → Option Unit) : execD Tryz.prog (env [] noLp 0) (loopAt Tryz.f5 58) 500 (temps 54 [17, 18] [iv 0, iv 0]) [none] (fun e τ σ => K e τ.length (pick [17, 18] τ) (pick [] τ) σ) =
  K (.exit 0) 54 [iv 0, iv 0] [] [none] := by
 kernel_rfl
theorem fn_ls {st : AE.Stat} : LoopS Tryz.prog st gl0 (.loop (loopAt Tryz.f5 58)) fnI.g := by
 refine fnI.ok (E := env [] noLp 0) (p := 500) (tblD_env (l := []) fun _ h => nomatch h) (glOk st).1 (fun _ _ _ h => nomatch h) (fun i k h => h) fun i hi => ?_
 refine (fn_loop _).trans ?_
 exact LInv.ask_of ⟨rfl, rfl, [], wkN .nil⟩
noncomputable abbrev fnL (x : Tm) (g p : Bool) : List (FuncId × ConF) := [(13, tmC x g), (14, tmC x p)]
theorem fn_tree (x : Tm) (g p : Bool) (k : DV → Option Unit) : bodyD Tryz.prog (env (fnL x g p) (lpOf [(58, fnI.g)]) 0) Tryz.f5 [.agg x.cells, .v (.slice none 0 0)] [] (fun d _ => k d) =
  bif holds (x.cells = x.cells) then bif g then k (bv false) else bif holds (x.cells = x.cells) then bif !p then k (bv false) else bif holds (True ∧ ∃ ids, WkP 1 ids [iv 0, iv 0] [some ⟨42, .lst [x.cells]⟩] [iv 0, iv 0] [none])
  then k (bv true) else none else none else none := by
 kernel_rfl
def fineF (x : Tm) : Bool := bif greatF x then false else bif properF x then true else false
theorem fn_true (x : Tm) : bodyD Tryz.prog (env (fnL x (greatF x) (properF x)) (lpOf [(58, fnI.g)]) 0) Tryz.f5 [.agg x.cells, .v (.slice none 0 0)] [] (fun d _ => isD (bv (fineF x)) d) = some () := by
 refine (fn_tree x _ _ _).trans ?_
 unfold fineF
 refine hT rfl (cS (fun h => isD_of ?_) fun h => hT rfl (cS (fun h2 => isD_of ?_) fun h2 => hT ⟨trivial, [], wkN (.cons (.v _) (.cons (.v _) .nil))⟩ (isD_of ?_)))
 ·rw [h]; rfl
 ·have h2 : properF x = false := by simpa using h2
  rw [h, h2]; rfl
 ·have h2 : properF x = true := by simpa using h2
  rw [h, h2]; rfl
noncomputable def fnC (x : Tm) (b : Bool) : ConF := fun args k => match args with
 | [.agg l, .v (.slice none 0 0)] => bif holds (l = x.cells) then k (fun _ => (bv b, [])) else none
 | _ => none
theorem fnC_ok {st : AE.Stat} (hx : ∀ f, exA f = false → ∀ a σ, st.ext f a σ = none) (x : Tm) (hok : x.ok) : ConOk Tryz.prog st 5 (fnC x (fineF x)) := by
 refine con_flat (mg := []) (l := fnL x (greatF x) (properF x)) (lp := lpOf [(58, fnI.g)]) (n := 0) (glOk st) (fun x h => ?_) Tryz.func5 (by kernel_rfl) (by kernel_rfl) (hx 5 rfl) (lp_one (by kernel_rfl) fn_ls) fun args k hk => ?_
 ·simp only [fnL, List.mem_cons, List.not_mem_nil, or_false] at h
  rcases h with rfl | rfl
  ·exact gtC_ok hx _ hok
  ·exact ppC_ok hx _ hok
 unfold fnC at hk
 split at hk <;> first | (cases hk; done) | skip
 obtain ⟨hb, hk2⟩ := bif_none hk
 obtain rfl := holds_eq.1 hb
 exact ⟨_, _, .self (.self .nil), v_clo _, hk2, fn_true x⟩
end Go.Proofs.YtfdldnomelnbgaaGreatDoor
