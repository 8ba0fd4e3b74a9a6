/-
 The contracts of the comparisons of rows and of grids.
 Conditions: none beyond those of the contracts.
-/
import Derived.Test.YtfdldnomelnbgaaGreatDoorJRws
namespace Go.Proofs.YtfdldnomelnbgaaGreatDoor
open Go Go.AE Go.DE Go.RowKit

/-- Whether all from one on are so. -/
def allF (p : Nat → Bool) : Nat → Nat → Bool
 | 0, _ => true
 | m + 1, i => bif p i then allF p m (i + 1) else false
theorem allF_iff {p : Nat → Bool} : ∀ {m i : Nat}, allF p m i = true ↔ ∀ j, i ≤ j → j < i + m → p j = true
 | 0, i => ⟨fun _ j h1 h2 => by omega, fun _ => rfl⟩
 | m + 1, i => by
  rw [allF]
  cases hp : p i with
  | false => exact ⟨(fun h => nomatch h), fun h => by have := h i (Nat.le_refl _) (by omega); rw [hp] at this; cases this⟩
  | true =>
   rw [cond_true, allF_iff]
   refine ⟨fun h j h1 h2 => ?_, fun h j h1 h2 => h j (by omega) (by omega)⟩
   by_cases e : i = j
   ·subst e; exact hp
   ·exact h j (by omega) (by omega)
def aE (b : Bool) : Ex := bif b then .exit 0 else .ret
def aO (b : Bool) : List DV := bif b then [.any] else [bv false]
def cellB (r s : Row) (i : Nat) : Bool :=
 bif r.tx i == s.tx i then (bif r.wd i == s.wd i then (bif (bif r.fo i == s.fo i then (bif r.ba i == s.ba i then (bif r.fl i == s.fl i then true else false) else false) else false) then true else false) else false) else false
theorem a_cps {b : Bool} {k : Ex → List DV → DHeap → Option Unit} (h : (bif holds (b = true) then k (.exit 0) [.any] [] else k .ret [bv false] []) = some ()) : k (aE b) (aO b) [] = some () := by
 rcases bif_some h with ⟨h1, h2⟩ | ⟨h1, h2⟩
 ·rw [holds_eq.1 h1]; exact h2
 ·cases b with
  | false => exact h2
  | true => rw [holds_eq.2 rfl] at h1; cases h1
structure ZX where
 t : Bool
 u : Bool
 r : Row
 s : Row
 i : Nat
noncomputable def ecI : LInv ZX where
 pre x := x.r.n = x.s.n ∧ x.i ≤ x.r.n ∧ x.r.n ≤ 9000000
 m := 0
 n := 26
 ps := [0, 1, 12, 13]
 sd x := [.sl x.t x.r.cell 5 x.r.n, .sl x.u x.s.cell 5 x.s.n, iv x.r.n, iv x.i]
 sh _ := []
 meas x := x.r.n - x.i
 e x := aE (allF (cellB x.r x.s) (x.r.n - x.i) x.i)
 qs := [4]
 od x := aO (allF (cellB x.r x.s) (x.r.n - x.i) x.i)
 oh _ := []
 guess ds _ := match ds with
  | [.sl t g 5 n, .sl u h 5 m, _, _] => some ⟨t, u, rowOf g n, rowOf h m, 0⟩
  | _ => none
 cps x k := bif holds (allF (cellB x.r x.s) (x.r.n - x.i) x.i = true) then k (.exit 0) [.any] [] else k .ret [bv false] []
theorem ec_loop (t u : Bool) (r s : Row) (i : Nat) (K : Ex → Nat → List DV → List DV → Option Unit) : execD Tryz.prog (env [] noLp 0) (loopAt Tryz.f71 58) 500 (temps 26 [0, 1, 12, 13] [.sl t r.cell 5 r.n, .sl u s.cell 5 s.n, iv r.n, iv i]) [] (fun e τ _ => K e τ.length (pick [0, 1, 12, 13] τ) (pick [4] τ)) =
  bif decide ((i : Int) < (r.n : Int)) then bif decide ((i : Int) < (r.n : Int)) then bif decide (tN i < r.n) then bif decide (tN i < r.n) then bif decide (tN i < r.n) then bif decide (tN i < r.n) then
  bif decide (tN i < r.n) then bif decide ((i : Int) < (s.n : Int)) then bif decide (tN i < s.n) then bif decide (tN i < s.n) then bif decide (tN i < s.n) then bif decide (tN i < s.n) then bif decide (tN i < s.n)
  then bif bif bif r.tx (tN i) == s.tx (tN i) then bif r.wd (tN i) == s.wd (tN i) then bif bif r.fo (tN i) == s.fo (tN i) then bif r.ba (tN i) == s.ba (tN i) then bif r.fl (tN i) == s.fl (tN i) then true
  else false else false else false then true else false else false else false then false else true then K .ret 26 [.sl t r.cell 5 r.n, .sl u s.cell 5 s.n, iv (r.n : Int), iv (i : Int)] [bv false] else K .normal 26 [.sl t r.cell 5 r.n, .sl u s.cell 5 s.n, iv (r.n : Int), iv (IntKind.wrap .i64 ((i : Int) + 1))] [DV.any]
  else none else none else none else none else none else none else none else none else none else none else none else none else K (.exit 0) 26 [.sl t r.cell 5 r.n, .sl u s.cell 5 s.n, iv (r.n : Int), iv (i : Int)] [DV.any] := by
 kernel_rfl
theorem ec_ls {st : AE.Stat} : LoopS Tryz.prog st gl0 (.loop (loopAt Tryz.f71 58)) ecI.g := by
 refine ecI.ok (E := env [] noLp 0) (p := 500) (tblD_env (l := []) fun _ h => nomatch h) (glOk st).1 (fun _ _ _ h => nomatch h) (fun x k h => a_cps h) fun x hx => ?_
 obtain ⟨t, u, r, s, i⟩ := x
 obtain ⟨he, hi, hn⟩ : r.n = s.n ∧ i ≤ r.n ∧ r.n ≤ 9000000 := hx
 have ea : (fun e τ σ => ecI.ask ⟨t, u, r, s, i⟩ e τ.length (pick [0, 1, 12, 13] τ) (pick [4] τ) σ : KD Unit) = fun e τ _ => ecI.ask ⟨t, u, r, s, i⟩ e τ.length (pick [0, 1, 12, 13] τ) (pick [4] τ) [] := by
  funext e τ σ
  exact ask_any rfl (fun _ => rfl) fun _ => rfl
 refine (congrArg (execD Tryz.prog (env [] noLp 0) (loopAt Tryz.f71 58) 500 (temps 26 [0, 1, 12, 13] [.sl t r.cell 5 r.n, .sl u s.cell 5 s.n, iv r.n, iv i]) []) ea).trans ?_
 refine (ec_loop t u r s i fun e n ds es => ecI.ask ⟨t, u, r, s, i⟩ e n ds es []).trans ?_
 simp only [Int.toNat_natCast, Nat.add_zero]
 refine dS (fun hlt => ?_) fun hge => ?_
 ·have hlt : i < r.n := by omega
  have hls : i < s.n := by omega
  have hW : IntKind.i64.wrap ((i : Int) + 1) = ((i + 1 : Nat) : Int) := by rw [W_in (by omega) (by omega)]; omega
  have e1 : r.n - i = (r.n - (i + 1)) + 1 := by omega
  have hq : allF (cellB r s) (r.n - i) i = bif cellB r s i then allF (cellB r s) (r.n - (i + 1)) (i + 1) else false := by rw [e1, allF]
  refine dT (by omega) (dT hlt (dT hlt (dT hlt (dT hlt (dT hlt (dT (by omega) (dT hls (dT hls (dT hls (dT hls (dT hls (cS (fun h1 => ?_) fun h1 => ?_))))))))))))
  ·have h1 : (bif cellB r s i then false else true) = true := h1
   have h1 : cellB r s i = false := by cases h : cellB r s i <;> simp_all
   rw [h1, cond_false] at hq
   refine LInv.ask_of ⟨rfl, ?_, [], ?_⟩
   ·simp only [ecI]; rw [hq]; rfl
   ·simp only [ecI]; rw [hq]; exact wk0 (.cons (.v _) .nil) rfl
  ·have h1 : (bif cellB r s i then false else true) = false := h1
   have h1 : cellB r s i = true := by cases h : cellB r s i <;> simp_all
   rw [h1, cond_true] at hq
   rw [hW]
   exact LInv.ask_of ⟨rfl, ⟨t, u, r, s, i + 1⟩, ⟨by simp only [ecI, hq], by simp only [ecI, hq], rfl, he, hlt, hn⟩, by simp only [ecI]; omega, [], wk0 (.cons (.sl _ _ _ _) (.cons (.sl _ _ _ _) (.cons (.v _) (.cons (.v _) .nil)))) rfl⟩
 ·have e1 : r.n - i = 0 := by omega
  refine LInv.ask_of ⟨rfl, ?_, [], ?_⟩
  ·simp only [ecI, e1]; rfl
  ·simp only [ecI, e1]; exact wk0 (.cons (.any _) .nil) rfl
theorem ec_tree (t u : Bool) (r s : Row) (k : DV → Option Unit) : bodyD Tryz.prog (env [] (lpOf [(58, ecI.g)]) 0) Tryz.f71 [.sl t r.cell 5 r.n, .sl u s.cell 5 s.n] [] (fun d _ => k d) =
  bif (r.n : Int) != (s.n : Int) then k (bv false) else bif holds ((Row.n (rowOf r.cell r.n) = Row.n (rowOf s.cell s.n) ∧ Nat.le 0 (Row.n (rowOf r.cell r.n)) ∧ Nat.le (Row.n (rowOf r.cell r.n)) 9000000) ∧ ∃ ids, WkP 0 ids [.sl t r.cell 5 r.n, .sl u s.cell 5 s.n, iv (r.n : Int), iv 0] [] [.sl t (Row.cell (rowOf r.cell r.n)) 5 (Row.n (rowOf r.cell r.n)), .sl u (Row.cell (rowOf s.cell s.n)) 5 (Row.n (rowOf s.cell s.n)), iv (↑(Row.n (rowOf r.cell r.n)) : Int), iv 0] (LInv.sh ecI { t := t, u := u, r := rowOf r.cell r.n, s := rowOf s.cell s.n, i := 0 }))
  then bif holds (allF (cellB (rowOf r.cell r.n) (rowOf s.cell s.n)) (Row.n (rowOf r.cell r.n) - 0) 0 = true) then k (bv true) else k (bv false) else none := by
 kernel_rfl
/-- Whether two rows are the same. -/
def rowEq (r s : Row) : Bool := bif (r.n : Int) != (s.n : Int) then false else allF (cellB r s) r.n 0
noncomputable def ecC (E : Row → Row → Bool) : ConF := fun args k => match args with
 | [.sl _ g 5 n, .sl _ h 5 m] => bif holds (cellsOk g n ∧ cellsOk h m) then k (fun _ => (bv (E ⟨n, fun j => strD (g j 0), fun j => numD (g j 1), fun j => numD (g j 2), fun j => numD (g j 3), fun j => numD (g j 4)⟩ ⟨m, fun j => strD (h j 0), fun j => numD (h j 1), fun j => numD (h j 2), fun j => numD (h j 3), fun j => numD (h j 4)⟩), [])) else none
 | _ => none
theorem ec_true (t u : Bool) (r s : Row) (hr : r.sized) : bodyD Tryz.prog (env [] (lpOf [(58, ecI.g)]) 0) Tryz.f71 [.sl t r.cell 5 r.n, .sl u s.cell 5 s.n] [] (fun d _ => isD (bv (rowEq r s)) d) = some () := by
 refine (ec_tree t u r s _).trans ?_
 unfold rowEq
 refine cS (fun h => isD_of (by rw [h]; rfl)) fun h => ?_
 rw [h, cond_false]
 have h : r.n = s.n := by
  have : (r.n : Int) = (s.n : Int) := by simpa using h
  omega
 refine hT ⟨⟨h, Nat.zero_le _, hr.1⟩, [], wk0 (.cons (.sl _ _ _ _) (.cons (.sl _ _ _ _) (.cons (.v _) (.cons (.v _) .nil)))) rfl⟩ ?_
 by_cases hq : allF (cellB r s) r.n 0 = true
 ·exact hT hq (isD_of (by rw [hq]))
 ·exact hF hq (isD_of (by rw [Bool.eq_false_iff.2 hq]))
theorem ecC_ok {st : AE.Stat} (hx : ∀ f, exA f = false → ∀ a σ, st.ext f a σ = none) : ConOk Tryz.prog st 71 (ecC rowEq) := by
 refine con_flat (mg := []) (l := []) (lp := lpOf [(58, ecI.g)]) (n := 0) (glOk st) (fun _ h => nomatch h) Tryz.func71 (by kernel_rfl) (by kernel_rfl) (hx 71 rfl) (lp_one (by kernel_rfl) ec_ls) fun args k hk => ?_
 unfold ecC at hk
 split at hk <;> first | (cases hk; done) | skip
 rename_i t g n u h m
 obtain ⟨hb, hk⟩ := bif_none hk
 obtain ⟨h1, h2⟩ := holds_eq.1 hb
 exact ⟨[.sl t (rowOf g n).cell 5 n, .sl u (rowOf h m).cell 5 m], _, .cons (h1.cv t) (.cons (h2.cv u) .nil), v_clo _, hk, ec_true t u (rowOf g n) (rowOf h m) h1.row⟩
/-! ### Booleans -/
structure ZB where
 t : Bool
 u : Bool
 r : Nat → Bool
 s : Nat → Bool
 n : Nat
 i : Nat
def tabB (r s : Nat → Bool) (i : Nat) : Bool := r i == s i
noncomputable def ebI : LInv ZB where
 pre x := x.i ≤ x.n ∧ x.n ≤ 9000000
 m := 0
 n := 26
 ps := [0, 1, 12, 13]
 sd x := [.sl x.t (tabsD x.r) 1 x.n, .sl x.u (tabsD x.s) 1 x.n, iv x.n, iv x.i]
 sh _ := []
 meas x := x.n - x.i
 e x := aE (allF (tabB x.r x.s) (x.n - x.i) x.i)
 qs := [4]
 od x := aO (allF (tabB x.r x.s) (x.n - x.i) x.i)
 oh _ := []
 guess ds _ := match ds with
  | [.sl t g 1 n, .sl u h 1 _, _, _] => some ⟨t, u, fun i => boolD (g i 0), fun i => boolD (h i 0), n, 0⟩
  | _ => none
 cps x k := bif holds (allF (tabB x.r x.s) (x.n - x.i) x.i = true) then k (.exit 0) [.any] [] else k .ret [bv false] []
theorem eb_loop (t u : Bool) (r s : Nat → Bool) (n i : Nat) (K : Ex → Nat → List DV → List DV → Option Unit) : execD Tryz.prog (env [] noLp 0) (loopAt Tryz.f35 58) 500 (temps 26 [0, 1, 12, 13] [.sl t (tabsD r) 1 n, .sl u (tabsD s) 1 n, iv n, iv i]) [] (fun e τ _ => K e τ.length (pick [0, 1, 12, 13] τ) (pick [4] τ)) =
  bif decide ((i : Int) < (n : Int)) then bif decide ((i : Int) < (n : Int)) then bif decide (tN i < n) then bif decide ((i : Int) < (n : Int)) then bif decide (tN i < n) then bif !r (tN i) == s (tN i)
  then K .ret 26 [.sl t (fun a a_1 => bv (r a)) 1 n, .sl u (fun a a_1 => bv (s a)) 1 n, iv (n : Int), iv (i : Int)] [bv false] else K .normal 26 [.sl t (fun a a_1 => bv (r a)) 1 n, .sl u (fun a a_1 => bv (s a)) 1 n, iv (n : Int), iv (IntKind.wrap .i64 ((i : Int) + 1))] [DV.any]
  else none else none else none else none else K (.exit 0) 26 [.sl t (fun a a_1 => bv (r a)) 1 n, .sl u (fun a a_1 => bv (s a)) 1 n, iv (n : Int), iv (i : Int)] [DV.any] := by
 kernel_rfl
theorem eb_ls {st : AE.Stat} : LoopS Tryz.prog st gl0 (.loop (loopAt Tryz.f35 58)) ebI.g := by
 refine ebI.ok (E := env [] noLp 0) (p := 500) (tblD_env (l := []) fun _ h => nomatch h) (glOk st).1 (fun _ _ _ h => nomatch h) (fun x k h => a_cps h) fun x hx => ?_
 obtain ⟨t, u, r, s, n, i⟩ := x
 obtain ⟨hi, hn⟩ : i ≤ n ∧ n ≤ 9000000 := hx
 have ea : (fun e τ σ => ebI.ask ⟨t, u, r, s, n, i⟩ e τ.length (pick [0, 1, 12, 13] τ) (pick [4] τ) σ : KD Unit) = fun e τ _ => ebI.ask ⟨t, u, r, s, n, i⟩ e τ.length (pick [0, 1, 12, 13] τ) (pick [4] τ) [] := by
  funext e τ σ
  exact ask_any rfl (fun _ => rfl) fun _ => rfl
 refine (congrArg (execD Tryz.prog (env [] noLp 0) (loopAt Tryz.f35 58) 500 (temps 26 [0, 1, 12, 13] [.sl t (tabsD r) 1 n, .sl u (tabsD s) 1 n, iv n, iv i]) []) ea).trans ?_
 refine (eb_loop t u r s n i fun e n' ds es => ebI.ask ⟨t, u, r, s, n, i⟩ e n' ds es []).trans ?_
 simp only [Int.toNat_natCast, Nat.add_zero]
 refine dS (fun hlt => ?_) fun hge => ?_
 ·have hlt : i < n := by omega
  have hW : IntKind.i64.wrap ((i : Int) + 1) = ((i + 1 : Nat) : Int) := by rw [W_in (by omega) (by omega)]; omega
  have e1 : n - i = (n - (i + 1)) + 1 := by omega
  have hq : allF (tabB r s) (n - i) i = bif tabB r s i then allF (tabB r s) (n - (i + 1)) (i + 1) else false := by rw [e1, allF]
  refine dT (by omega) (dT hlt (dT (by omega) (dT hlt (cS (fun h1 => ?_) fun h1 => ?_))))
  ·have h1 : (r i != s i) = true := h1
   have h1 : tabB r s i = false := by unfold tabB; cases h : (r i == s i) <;> simp_all
   rw [h1, cond_false] at hq
   refine LInv.ask_of ⟨rfl, ?_, [], ?_⟩
   ·simp only [ebI]; rw [hq]; rfl
   ·simp only [ebI]; rw [hq]; exact wk0 (.cons (.v _) .nil) rfl
  ·have h1 : (r i != s i) = false := h1
   have h1 : tabB r s i = true := by unfold tabB; cases h : (r i == s i) <;> simp_all
   rw [h1, cond_true] at hq
   rw [hW]
   exact LInv.ask_of ⟨rfl, ⟨t, u, r, s, n, i + 1⟩, ⟨by simp only [ebI, hq], by simp only [ebI, hq], rfl, hlt, hn⟩, by simp only [ebI]; omega, [], wk0 (.cons (.sl _ _ _ _) (.cons (.sl _ _ _ _) (.cons (.v _) (.cons (.v _) .nil)))) rfl⟩
 ·have e1 : n - i = 0 := by omega
  refine LInv.ask_of ⟨rfl, ?_, [], ?_⟩
  ·simp only [ebI, e1]; rfl
  ·simp only [ebI, e1]; exact wk0 (.cons (.any _) .nil) rfl
theorem eb_tree (t u : Bool) (r s : Nat → Bool) (n m : Nat) (k : DV → Option Unit) : bodyD Tryz.prog (env [] (lpOf [(58, ebI.g)]) 0) Tryz.f35 [.sl t (tabsD r) 1 n, .sl u (tabsD s) 1 m] [] (fun d _ => k d) =
  bif (n : Int) != (m : Int) then k (bv false) else bif holds ((Nat.le 0 n ∧ Nat.le n 9000000) ∧ ∃ ids, WkP 0 ids [.sl t (fun a a_1 => bv (r a)) 1 n, .sl u (fun a a_1 => bv (s a)) 1 m, iv (n : Int), iv 0] [] [.sl t (fun a a_1 => bv ((fun i => boolD (bv (r i))) a)) 1 n, .sl u (fun a a_1 => bv ((fun i => boolD (bv (s i))) a)) 1 n, iv (n : Int), iv 0] (LInv.sh ebI { t := t, u := u, r := fun i => boolD (bv (r i)), s := fun i => boolD (bv (s i)), n := n, i := 0 }))
  then bif holds (allF (tabB (fun i => boolD (bv (r i))) fun i => boolD (bv (s i))) (n - 0) 0 = true) then k (bv true) else k (bv false) else none := by
 kernel_rfl
/-- Whether two lists of booleans are the same. -/
def tabsEq (r : Nat → Bool) (n : Nat) (s : Nat → Bool) (m : Nat) : Bool := bif (n : Int) != (m : Int) then false else allF (tabB r s) n 0
noncomputable def ebC (Q : (Nat → Nat → DV) → Nat → Prop) (E : (Nat → Bool) → Nat → (Nat → Bool) → Nat → Bool) : ConF := fun args k => match args with
 | [.sl _ g 1 n, .sl _ h 1 m] => bif holds (Q g n ∧ Q h m) then k (fun _ => (bv (E (fun j => boolD (g j 0)) n (fun j => boolD (h j 0)) m), [])) else none
 | _ => none
theorem eb_true (t u : Bool) (r s : Nat → Bool) (n m : Nat) (hn : n ≤ 9000000) : bodyD Tryz.prog (env [] (lpOf [(58, ebI.g)]) 0) Tryz.f35 [.sl t (tabsD r) 1 n, .sl u (tabsD s) 1 m] [] (fun d _ => isD (bv (tabsEq r n s m)) d) = some () := by
 refine (eb_tree t u r s n m _).trans ?_
 unfold tabsEq
 refine cS (fun h => isD_of (by rw [h]; rfl)) fun h => ?_
 rw [h, cond_false]
 obtain rfl : n = m := by
  have : (n : Int) = (m : Int) := by simpa using h
  omega
 refine hT ⟨⟨Nat.zero_le _, hn⟩, [], wk0 (.cons (.sl _ _ _ _) (.cons (.sl _ _ _ _) (.cons (.v _) (.cons (.v _) .nil)))) rfl⟩ ?_
 by_cases hq : allF (tabB r s) n 0 = true
 ·exact hT hq (isD_of (by rw [hq]))
 ·exact hF hq (isD_of (by rw [Bool.eq_false_iff.2 hq]))
theorem tabs_cv {t : Bool} {g : Nat → Nat → DV} {n : Nat} (h : tabsAre g n) : Cv (.sl t g 1 n) (.sl t (tabsD fun i => boolD (g i 0)) 1 n) := Cv.sl fun i f hi hf => .of (by obtain rfl : f = 0 := (by omega); exact h.2.2 i hi)
theorem ebC_ok {st : AE.Stat} (hx : ∀ f, exA f = false → ∀ a σ, st.ext f a σ = none) : ConOk Tryz.prog st 35 (ebC tabsAre tabsEq) := by
 refine con_flat (mg := []) (l := []) (lp := lpOf [(58, ebI.g)]) (n := 0) (glOk st) (fun _ h => nomatch h) Tryz.func35 (by kernel_rfl) (by kernel_rfl) (hx 35 rfl) (lp_one (by kernel_rfl) eb_ls) fun args k hk => ?_
 unfold ebC at hk
 split at hk <;> first | (cases hk; done) | skip
 rename_i t g n u h m
 obtain ⟨hb, hk⟩ := bif_none hk
 obtain ⟨h1, h2⟩ := holds_eq.1 hb
 exact ⟨[.sl t (tabsD fun i => boolD (g i 0)) 1 n, .sl u (tabsD fun i => boolD (h i 0)) 1 m], _, .cons (tabs_cv h1) (.cons (tabs_cv h2) .nil), v_clo _, hk, eb_true t u _ _ n m h1.1⟩
/-! ### Lists of rows -/
theorem en_tree (E : Row → Row → Bool) (t u : Bool) (r s : Row) (k : DV → Option Unit) : bodyD Tryz.prog (env [(71, ecC E)] noLp 0) Tryz.f70 [.sl t r.cell 5 r.n, .sl u s.cell 5 s.n] [] (fun d _ => k d) =
  bif holds ((Nat.le r.n 9000000 ∧ ∀ (i : Nat), i < r.n → sv (r.tx i) = sv (strD (sv (r.tx i))) ∧ Nat.le (ByteArray.size (strD (sv (r.tx i)))) 9000000 ∧ iv (r.wd i) = iv (numD (iv (r.wd i))) ∧ iv (r.fo i) = iv (numD (iv (r.fo i))) ∧ iv (r.ba i) = iv (numD (iv (r.ba i))) ∧ iv (r.fl i) = iv (numD (iv (r.fl i)))) ∧ Nat.le s.n 9000000 ∧ ∀ (i : Nat), i < s.n → sv (s.tx i) = sv (strD (sv (s.tx i))) ∧ Nat.le (ByteArray.size (strD (sv (s.tx i)))) 9000000 ∧ iv (s.wd i) = iv (numD (iv (s.wd i))) ∧ iv (s.fo i) = iv (numD (iv (s.fo i))) ∧ iv (s.ba i) = iv (numD (iv (s.ba i))) ∧ iv (s.fl i) = iv (numD (iv (s.fl i))))
  then k (bv (E { n := r.n, tx := fun j => strD (sv (r.tx j)), wd := fun j => numD (iv (r.wd j)), fo := fun j => numD (iv (r.fo j)), ba := fun j => numD (iv (r.ba j)), fl := fun j => numD (iv (r.fl j)) } { n := s.n, tx := fun j => strD (sv (s.tx j)), wd := fun j => numD (iv (s.wd j)), fo := fun j => numD (iv (s.fo j)), ba := fun j => numD (iv (s.ba j)), fl := fun j => numD (iv (s.fl j)) }))
  else none := by
 kernel_rfl
structure ZR where
 t : Bool
 u : Bool
 T : Nat → Bool
 U : Nat → Bool
 R : Nat → Row
 S : Nat → Row
 n : Nat
 i : Nat
def eqFn : DV := .fn (.func 70) [] []
noncomputable def efI (E : Row → Row → Bool) : LInv ZR where
 pre x := x.i ≤ x.n ∧ rowsOk x.R x.n ∧ rowsOk x.S x.n
 m := 0
 n := 32
 ps := [1, 2, 15, 16, 17]
 sd x := [.sl x.u (rowsD x.U x.S) 1 x.n, eqFn, .sl x.t (rowsD x.T x.R) 1 x.n, iv x.n, iv x.i]
 sh _ := []
 meas x := x.n - x.i
 e x := aE (allF (fun i => E (x.R i) (x.S i)) (x.n - x.i) x.i)
 qs := [6]
 od x := aO (allF (fun i => E (x.R i) (x.S i)) (x.n - x.i) x.i)
 oh _ := []
 guess ds _ := match ds with
  | [.sl u h 1 _, _, .sl t g 1 n, _, _] => some ⟨t, u, fun i => slT (g i 0), fun i => slT (h i 0), fun i => rowD (g i 0), fun i => rowD (h i 0), n, 0⟩
  | _ => none
 cps x k := bif holds (allF (fun i => E (x.R i) (x.S i)) (x.n - x.i) x.i = true) then k (.exit 0) [.any] [] else k .ret [bv false] []
theorem ef_loop (E : Row → Row → Bool) (t u : Bool) (T U : Nat → Bool) (R S : Nat → Row) (n i : Nat) (K : Ex → Nat → List DV → List DV → Option Unit) : execD Tryz.prog (env [(70, ecC E)] noLp 0) (loopAt Tryz.f69 58) 500 (temps 32 [1, 2, 15, 16, 17] [.sl u (rowsD U S) 1 n, eqFn, .sl t (rowsD T R) 1 n, iv n, iv i]) [] (fun e τ _ => K e τ.length (pick [1, 2, 15, 16, 17] τ) (pick [6] τ)) =
  bif decide ((i : Int) < (n : Int)) then bif decide ((i : Int) < (n : Int)) then bif decide (tN i < n) then bif decide ((i : Int) < (n : Int)) then bif decide (tN i < n) then bif holds ((Nat.le (Row.n (R (tN i))) 9000000 ∧ ∀ (i_1 : Nat), i_1 < Row.n (R (tN i)) → sv (Row.tx (R (tN i)) i_1) = sv (strD (sv (Row.tx (R (tN i)) i_1))) ∧ Nat.le (ByteArray.size (strD (sv (Row.tx (R (tN i)) i_1)))) 9000000 ∧ iv (Row.wd (R (tN i)) i_1) = iv (numD (iv (Row.wd (R (tN i)) i_1))) ∧ iv (Row.fo (R (tN i)) i_1) = iv (numD (iv (Row.fo (R (tN i)) i_1))) ∧ iv (Row.ba (R (tN i)) i_1) = iv (numD (iv (Row.ba (R (tN i)) i_1))) ∧ iv (Row.fl (R (tN i)) i_1) = iv (numD (iv (Row.fl (R (tN i)) i_1)))) ∧ Nat.le (Row.n (S (tN i))) 9000000 ∧ ∀ (i_1 : Nat), i_1 < Row.n (S (tN i)) → sv (Row.tx (S (tN i)) i_1) = sv (strD (sv (Row.tx (S (tN i)) i_1))) ∧ Nat.le (ByteArray.size (strD (sv (Row.tx (S (tN i)) i_1)))) 9000000 ∧ iv (Row.wd (S (tN i)) i_1) = iv (numD (iv (Row.wd (S (tN i)) i_1))) ∧ iv (Row.fo (S (tN i)) i_1) = iv (numD (iv (Row.fo (S (tN i)) i_1))) ∧ iv (Row.ba (S (tN i)) i_1) = iv (numD (iv (Row.ba (S (tN i)) i_1))) ∧ iv (Row.fl (S (tN i)) i_1) = iv (numD (iv (Row.fl (S (tN i)) i_1))))
  then bif !E { n := Row.n (R (tN i)), tx := fun j => strD (sv (Row.tx (R (tN i)) j)), wd := fun j => numD (iv (Row.wd (R (tN i)) j)), fo := fun j => numD (iv (Row.fo (R (tN i)) j)), ba := fun j => numD (iv (Row.ba (R (tN i)) j)), fl := fun j => numD (iv (Row.fl (R (tN i)) j)) } { n := Row.n (S (tN i)), tx := fun j => strD (sv (Row.tx (S (tN i)) j)), wd := fun j => numD (iv (Row.wd (S (tN i)) j)), fo := fun j => numD (iv (Row.fo (S (tN i)) j)), ba := fun j => numD (iv (Row.ba (S (tN i)) j)), fl := fun j => numD (iv (Row.fl (S (tN i)) j)) }
  then K .ret 32 [.sl u (fun a a_1 => DV.sl (U a) (Row.cell (S a)) 5 (Row.n (S a))) 1 n, .fn (Fn.func 70) [] [], .sl t (fun a a_1 => DV.sl (T a) (Row.cell (R a)) 5 (Row.n (R a))) 1 n, iv (n : Int), iv (i : Int)] [bv false]
  else K .normal 32 [.sl u (fun a a_1 => DV.sl (U a) (Row.cell (S a)) 5 (Row.n (S a))) 1 n, .fn (Fn.func 70) [] [], .sl t (fun a a_1 => DV.sl (T a) (Row.cell (R a)) 5 (Row.n (R a))) 1 n, iv (n : Int), iv (IntKind.wrap .i64 ((i : Int) + 1))] [DV.any]
  else none else none else none else none else none else K (.exit 0) 32 [.sl u (fun a a_1 => DV.sl (U a) (Row.cell (S a)) 5 (Row.n (S a))) 1 n, .fn (Fn.func 70) [] [], .sl t (fun a a_1 => DV.sl (T a) (Row.cell (R a)) 5 (Row.n (R a))) 1 n, iv (n : Int), iv (i : Int)] [DV.any] := by
 kernel_rfl
theorem enC_ok {st : AE.Stat} (hx : ∀ f, exA f = false → ∀ a σ, st.ext f a σ = none) : ConOk Tryz.prog st 70 (ecC rowEq) := by
 refine con_flat (mg := []) (l := [(71, ecC rowEq)]) (lp := noLp) (n := 0) (glOk st) (fun x h => ?_) Tryz.func70 (by kernel_rfl) (by kernel_rfl) (hx 70 rfl) (fun _ _ _ h => nomatch h) fun args k hk => ?_
 ·simp only [List.mem_cons, List.not_mem_nil, or_false] at h
  subst h
  exact ecC_ok hx
 unfold ecC at hk
 split at hk <;> first | (cases hk; done) | skip
 rename_i t g n u h m
 obtain ⟨hb, hk⟩ := bif_none hk
 obtain ⟨h1, h2⟩ := holds_eq.1 hb
 exact ⟨[.sl t (rowOf g n).cell 5 n, .sl u (rowOf h m).cell 5 m], _, .cons (h1.cv t) (.cons (h2.cv u) .nil), v_clo _, hk, (en_tree rowEq t u (rowOf g n) (rowOf h m) _).trans (hT ⟨Row.ok h1.row, Row.ok h2.row⟩ (isD_of rfl))⟩
theorem eqFn_clo : Clo eqFn := fun C μ μ' x hx => by
 cases hx with
 | fn _ _ _ u v h1 h2 h3 h4 => exact .fn _ _ _ u v h1 h2 (fun i d x' hd => by simp at hd) fun i d x' hd => by simp at hd
theorem ef_ls {st : AE.Stat} (hx : ∀ f, exA f = false → ∀ a σ, st.ext f a σ = none) : LoopS Tryz.prog st gl0 (.loop (loopAt Tryz.f69 58)) (efI rowEq).g := by
 refine (efI rowEq).ok (E := env [(70, ecC rowEq)] noLp 0) (p := 500) (tblD_env (l := [(70, ecC rowEq)]) fun x h => ?_) (glOk st).1 (fun _ _ _ h => nomatch h) (fun x k h => a_cps h) fun x hx => ?_
 ·simp only [List.mem_cons, List.not_mem_nil, or_false] at h
  subst h
  exact enC_ok hx
 obtain ⟨t, u, T, U, R, S, n, i⟩ := x
 obtain ⟨hi, hR, hS⟩ : i ≤ n ∧ rowsOk R n ∧ rowsOk S n := hx
 have hn := hR.1
 have ea : (fun e τ σ => (efI rowEq).ask ⟨t, u, T, U, R, S, n, i⟩ e τ.length (pick [1, 2, 15, 16, 17] τ) (pick [6] τ) σ : KD Unit) = fun e τ _ => (efI rowEq).ask ⟨t, u, T, U, R, S, n, i⟩ e τ.length (pick [1, 2, 15, 16, 17] τ) (pick [6] τ) [] := by
  funext e τ σ
  exact ask_any rfl (fun _ => rfl) fun _ => rfl
 refine (congrArg (execD Tryz.prog (env [(70, ecC rowEq)] noLp 0) (loopAt Tryz.f69 58) 500 (temps 32 [1, 2, 15, 16, 17] [.sl u (rowsD U S) 1 n, eqFn, .sl t (rowsD T R) 1 n, iv n, iv i]) []) ea).trans ?_
 refine (ef_loop rowEq t u T U R S n i fun e n' ds es => (efI rowEq).ask ⟨t, u, T, U, R, S, n, i⟩ e n' ds es []).trans ?_
 simp only [Int.toNat_natCast, Nat.add_zero]
 refine dS (fun hlt => ?_) fun hge => ?_
 ·have hlt : i < n := by omega
  have hW : IntKind.i64.wrap ((i : Int) + 1) = ((i + 1 : Nat) : Int) := by rw [W_in (by omega) (by omega)]; omega
  have e1 : n - i = (n - (i + 1)) + 1 := by omega
  have hq : allF (fun i => rowEq (R i) (S i)) (n - i) i = bif rowEq (R i) (S i) then allF (fun i => rowEq (R i) (S i)) (n - (i + 1)) (i + 1) else false := by rw [e1, allF]
  refine dT (by omega) (dT hlt (dT (by omega) (dT hlt (hT ⟨Row.ok (hR.2 i hlt), Row.ok (hS.2 i hlt)⟩ (cS (fun h1 => ?_) fun h1 => ?_)))))
  ·have h1 : (!rowEq (R i) (S i)) = true := h1
   have h1 : rowEq (R i) (S i) = false := by simpa using h1
   rw [h1, cond_false] at hq
   refine LInv.ask_of ⟨rfl, ?_, [], ?_⟩
   ·simp only [efI]; rw [hq]; rfl
   ·simp only [efI]; rw [hq]; exact wk0 (.cons (.v _) .nil) rfl
  ·have h1 : (!rowEq (R i) (S i)) = false := h1
   have h1 : rowEq (R i) (S i) = true := by simpa using h1
   rw [h1, cond_true] at hq
   rw [hW]
   exact LInv.ask_of ⟨rfl, ⟨t, u, T, U, R, S, n, i + 1⟩, ⟨by simp only [efI, hq], by simp only [efI, hq], rfl, hlt, hR, hS⟩, by simp only [efI]; omega, [], wk0 (.cons (.sl _ _ _ _) (.cons (.of_clo eqFn_clo) (.cons (.sl _ _ _ _) (.cons (.v _) (.cons (.v _) .nil))))) rfl⟩
 ·have e1 : n - i = 0 := by omega
  refine LInv.ask_of ⟨rfl, ?_, [], ?_⟩
  ·simp only [efI, e1]; rfl
  ·simp only [efI, e1]; exact wk0 (.cons (.any _) .nil) rfl
theorem ef_tree (E : Row → Row → Bool) (t u : Bool) (T U : Nat → Bool) (R S : Nat → Row) (n m : Nat) (k : DV → Option Unit) : bodyD Tryz.prog (env [(70, ecC E)] (lpOf [(58, (efI E).g)]) 0) Tryz.f69 [.sl t (rowsD T R) 1 n, .sl u (rowsD U S) 1 m, eqFn] [] (fun d _ => k d) =
  bif (n : Int) != (m : Int) then k (bv false) else bif holds ((Nat.le 0 n ∧ (Nat.le n 9000000 ∧ ∀ (i : Nat), i < n → Nat.le (Row.n ((fun i => rowD (.sl (T i) (Row.cell (R i)) 5 (Row.n (R i)))) i)) 9000000 ∧ ∀ (i_1 : Nat), i_1 < Row.n ((fun i => rowD (.sl (T i) (Row.cell (R i)) 5 (Row.n (R i)))) i) → Nat.le (ByteArray.size (Row.tx ((fun i => rowD (.sl (T i) (Row.cell (R i)) 5 (Row.n (R i)))) i) i_1)) 9000000) ∧ Nat.le n 9000000 ∧ ∀ (i : Nat), i < n → Nat.le (Row.n ((fun i => rowD (.sl (U i) (Row.cell (S i)) 5 (Row.n (S i)))) i)) 9000000 ∧ ∀ (i_1 : Nat), i_1 < Row.n ((fun i => rowD (.sl (U i) (Row.cell (S i)) 5 (Row.n (S i)))) i) → Nat.le (ByteArray.size (Row.tx ((fun i => rowD (.sl (U i) (Row.cell (S i)) 5 (Row.n (S i)))) i) i_1)) 9000000) ∧ ∃ ids, WkP (LInv.m (efI E)) ids [.sl u (fun a a_1 => DV.sl (U a) (Row.cell (S a)) 5 (Row.n (S a))) 1 m, .fn (Fn.func 70) [] [], .sl t (fun a a_1 => DV.sl (T a) (Row.cell (R a)) 5 (Row.n (R a))) 1 n, iv (n : Int), iv 0] [] [.sl u (fun a a_1 => DV.sl ((fun i => slT (.sl (U i) (Row.cell (S i)) 5 (Row.n (S i)))) a) (Row.cell ((fun i => rowD (.sl (U i) (Row.cell (S i)) 5 (Row.n (S i)))) a)) 5 (Row.n ((fun i => rowD (.sl (U i) (Row.cell (S i)) 5 (Row.n (S i)))) a))) 1 n, .fn (Fn.func 70) [] [], .sl t (fun a a_1 => DV.sl ((fun i => slT (.sl (T i) (Row.cell (R i)) 5 (Row.n (R i)))) a) (Row.cell ((fun i => rowD (.sl (T i) (Row.cell (R i)) 5 (Row.n (R i)))) a)) 5 (Row.n ((fun i => rowD (.sl (T i) (Row.cell (R i)) 5 (Row.n (R i)))) a))) 1 n, iv (n : Int), iv 0] (LInv.sh (efI E) { t := t, u := u, T := fun i => slT (.sl (T i) (Row.cell (R i)) 5 (Row.n (R i))), U := fun i => slT (.sl (U i) (Row.cell (S i)) 5 (Row.n (S i))), R := fun i => rowD (.sl (T i) (Row.cell (R i)) 5 (Row.n (R i))), S := fun i => rowD (.sl (U i) (Row.cell (S i)) 5 (Row.n (S i))), n := n, i := 0 }))
  then bif holds (allF (fun i => E ((fun i => rowD (.sl (T i) (Row.cell (R i)) 5 (Row.n (R i)))) i) ((fun i => rowD (.sl (U i) (Row.cell (S i)) 5 (Row.n (S i)))) i)) (n - 0) 0 = true) then k (bv true)
  else k (bv false) else none := by
 kernel_rfl
/-- Whether two lists of rows are the same. -/
def rowsEq (R : Nat → Row) (n : Nat) (S : Nat → Row) (m : Nat) : Bool := bif (n : Int) != (m : Int) then false else allF (fun i => rowEq (R i) (S i)) n 0
theorem ef_true (t u : Bool) (T U : Nat → Bool) (R S : Nat → Row) (n m : Nat) (hR : rowsOk R n) (hS : rowsOk S m) : bodyD Tryz.prog (env [(70, ecC rowEq)] (lpOf [(58, (efI rowEq).g)]) 0) Tryz.f69 [.sl t (rowsD T R) 1 n, .sl u (rowsD U S) 1 m, eqFn] [] (fun d _ => isD (bv (rowsEq R n S m)) d) = some () := by
 refine (ef_tree rowEq t u T U R S n m _).trans ?_
 unfold rowsEq
 refine cS (fun h => isD_of (by rw [h]; rfl)) fun h => ?_
 rw [h, cond_false]
 obtain rfl : n = m := by
  have : (n : Int) = (m : Int) := by simpa using h
  omega
 refine hT ⟨⟨Nat.zero_le _, hR, hS⟩, [], wk0 (.cons (.sl _ _ _ _) (.cons (.of_clo eqFn_clo) (.cons (.sl _ _ _ _) (.cons (.v _) (.cons (.v _) .nil))))) rfl⟩ ?_
 by_cases hq : allF (fun i => rowEq (R i) (S i)) n 0 = true
 ·exact hT hq (isD_of (by rw [hq]))
 ·exact hF hq (isD_of (by rw [Bool.eq_false_iff.2 hq]))
/-- Rows, as a callee may see them. -/
def rowsHere (G : Nat → Nat → DV) (n : Nat) : Prop := n ≤ 9000000 ∧ ∀ i, i < n → isRow (G i 0)
noncomputable def efC (Q : (Nat → Nat → DV) → Nat → Prop) (E : (Nat → Row) → Nat → (Nat → Row) → Nat → Bool) : ConF := fun args k => match args with
 | [.sl _ G 1 n, .sl _ H 1 m, .fn (.func 70) [] []] => bif holds (Q G n ∧ Q H m) then k (fun _ => (bv (E (fun i => rowD (G i 0)) n (fun i => rowD (H i 0)) m), [])) else none
 | _ => none
theorem efC_ok {st : AE.Stat} (hx : ∀ f, exA f = false → ∀ a σ, st.ext f a σ = none) : ConOk Tryz.prog st 69 (efC rowsHere rowsEq) := by
 refine con_flat (mg := []) (l := [(70, ecC rowEq)]) (lp := lpOf [(58, (efI rowEq).g)]) (n := 0) (glOk st) (fun x h => ?_) Tryz.func69 (by kernel_rfl) (by kernel_rfl) (hx 69 rfl) (lp_one (by kernel_rfl) (ef_ls hx)) fun args k hk => ?_
 ·simp only [List.mem_cons, List.not_mem_nil, or_false] at h
  subst h
  exact enC_ok hx
 unfold efC at hk
 split at hk <;> first | (cases hk; done) | skip
 rename_i t G n u H m
 obtain ⟨hb, hk⟩ := bif_none hk
 obtain ⟨h1, h2⟩ := holds_eq.1 hb
 exact ⟨[.sl t (rowsD (fun i => slT (G i 0)) fun i => rowD (G i 0)) 1 n, .sl u (rowsD (fun i => slT (H i 0)) fun i => rowD (H i 0)) 1 m, eqFn], _, .cons (rows_cv h1.2) (.cons (rows_cv h2.2) (.self .nil)), v_clo _, hk,
  ef_true t u _ _ _ _ n m ⟨h1.1, fun i hi => (h1.2 i hi).2.row⟩ ⟨h2.1, fun i hi => (h2.2 i hi).2.row⟩⟩
/-! ### sameRows, sameGrid -/
noncomputable def srC (Q : (Nat → Nat → DV) → Nat → Prop) (E : (Nat → Row) → Nat → (Nat → Row) → Nat → Bool) : ConF := fun args k => match args with
 | [.sl _ G 1 n, .sl _ H 1 m] => bif holds (Q G n ∧ Q H m) then k (fun _ => (bv (E (fun i => rowD (G i 0)) n (fun i => rowD (H i 0)) m), [])) else none
 | _ => none
theorem sr_tree (Q : (Nat → Nat → DV) → Nat → Prop) (E : (Nat → Row) → Nat → (Nat → Row) → Nat → Bool) (t u : Bool) (T U : Nat → Bool) (R S : Nat → Row) (n m : Nat) (k : DV → Option Unit) : bodyD Tryz.prog (env [(69, efC Q E)] noLp 0) Tryz.f34 [.sl t (rowsD T R) 1 n, .sl u (rowsD U S) 1 m] [] (fun d _ => k d) =
  bif holds (Q (rowsD T R) n ∧ Q (rowsD U S) m) then k (bv (E (fun i => rowD (.sl (T i) (Row.cell (R i)) 5 (Row.n (R i)))) n (fun i => rowD (.sl (U i) (Row.cell (S i)) 5 (Row.n (S i)))) m)) else none := by
 kernel_rfl
theorem here_of {T : Nat → Bool} {R : Nat → Row} {n : Nat} (h : rowsOk R n) : rowsHere (rowsD T R) n := ⟨h.1, fun i hi => isRow_of (h.2 i hi)⟩
theorem srC_ok {st : AE.Stat} (hx : ∀ f, exA f = false → ∀ a σ, st.ext f a σ = none) : ConOk Tryz.prog st 34 (srC rowsHere rowsEq) := by
 refine con_flat (mg := []) (l := [(69, efC rowsHere rowsEq)]) (lp := noLp) (n := 0) (glOk st) (fun x h => ?_) Tryz.func34 (by kernel_rfl) (by kernel_rfl) (hx 34 rfl) (fun _ _ _ h => nomatch h) fun args k hk => ?_
 ·simp only [List.mem_cons, List.not_mem_nil, or_false] at h
  subst h
  exact efC_ok hx
 unfold srC at hk
 split at hk <;> first | (cases hk; done) | skip
 rename_i t G n u H m
 obtain ⟨hb, hk⟩ := bif_none hk
 obtain ⟨h1, h2⟩ := holds_eq.1 hb
 exact ⟨[.sl t (rowsD (fun i => slT (G i 0)) fun i => rowD (G i 0)) 1 n, .sl u (rowsD (fun i => slT (H i 0)) fun i => rowD (H i 0)) 1 m], _, .cons (rows_cv h1.2) (.cons (rows_cv h2.2) .nil), v_clo _, hk,
  (sr_tree rowsHere rowsEq t u _ _ _ _ n m _).trans (hT ⟨here_of ⟨h1.1, fun i hi => (h1.2 i hi).2.row⟩, here_of ⟨h2.1, fun i hi => (h2.2 i hi).2.row⟩⟩ (isD_of rfl))⟩
noncomputable def sgC (Q : (Nat → Nat → DV) → Nat → Prop) (E : (Nat → Row) → Nat → (Nat → Row) → Nat → Bool) : ConF := fun args k => match args with
 | [.agg [.v (.int .i64 w), .v (.int .i64 h), .sl _ G 1 n], .agg [.v (.int .i64 w'), .v (.int .i64 h'), .sl _ H 1 m]] => bif holds (Q G n ∧ Q H m) then
   k (fun _ => (bv (bif w == w' then (bif h == h' then E (fun i => rowD (G i 0)) n (fun i => rowD (H i 0)) m else false) else false), [])) else none
 | _ => none
theorem sg_tree (Q : (Nat → Nat → DV) → Nat → Prop) (E : (Nat → Row) → Nat → (Nat → Row) → Nat → Bool) (w h w' h' : Int) (t u : Bool) (T U : Nat → Bool) (R S : Nat → Row) (n m : Nat) (k : DV → Option Unit) : bodyD Tryz.prog (env [(34, srC Q E)] noLp 0) Tryz.f33 [.agg [iv w, iv h, .sl t (rowsD T R) 1 n], .agg [iv w', iv h', .sl u (rowsD U S) 1 m]] [] (fun d _ => k d) =
  bif w == w' then bif h == h' then bif holds (Q (rowsD T R) n ∧ Q (rowsD U S) m) then k (bv (E (fun i => rowD (.sl (T i) (Row.cell (R i)) 5 (Row.n (R i)))) n (fun i => rowD (.sl (U i) (Row.cell (S i)) 5 (Row.n (S i)))) m))
  else none else k (bv false) else k (bv false) := by
 kernel_rfl
theorem sgC_ok {st : AE.Stat} (hx : ∀ f, exA f = false → ∀ a σ, st.ext f a σ = none) : ConOk Tryz.prog st 33 (sgC rowsHere rowsEq) := by
 refine con_flat (mg := []) (l := [(34, srC rowsHere rowsEq)]) (lp := noLp) (n := 0) (glOk st) (fun x h => ?_) Tryz.func33 (by kernel_rfl) (by kernel_rfl) (hx 33 rfl) (fun _ _ _ h => nomatch h) fun args k hk => ?_
 ·simp only [List.mem_cons, List.not_mem_nil, or_false] at h
  subst h
  exact srC_ok hx
 unfold sgC at hk
 split at hk <;> first | (cases hk; done) | skip
 rename_i w h t G n w' h' u H m
 obtain ⟨hb, hk⟩ := bif_none hk
 obtain ⟨h1, h2⟩ := holds_eq.1 hb
 refine ⟨[.agg [iv w, iv h, .sl t (rowsD (fun i => slT (G i 0)) fun i => rowD (G i 0)) 1 n], .agg [iv w', iv h', .sl u (rowsD (fun i => slT (H i 0)) fun i => rowD (H i 0)) 1 m]], _, .cons (Cv.agg (.self (.self (.cons (rows_cv h1.2) .nil)))) (.cons (Cv.agg (.self (.self (.cons (rows_cv h2.2) .nil)))) .nil), v_clo _, hk, ?_⟩
 refine (sg_tree rowsHere rowsEq w h w' h' t u _ _ _ _ n m _).trans (cS (fun e1 => cS (fun e2 => hT ⟨here_of ⟨h1.1, fun i hi => (h1.2 i hi).2.row⟩, here_of ⟨h2.1, fun i hi => (h2.2 i hi).2.row⟩⟩ (isD_of ?_)) fun e2 => isD_of ?_) fun e1 => isD_of ?_)
 ·rw [e1, e2]; rfl
 ·rw [e1, e2]; rfl
 ·rw [e1]; rfl
end Go.Proofs.YtfdldnomelnbgaaGreatDoor
