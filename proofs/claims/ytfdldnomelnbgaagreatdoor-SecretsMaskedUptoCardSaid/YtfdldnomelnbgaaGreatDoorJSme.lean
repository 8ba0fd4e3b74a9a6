/-
 The contracts of the reference's comparisons, of a terminal with itself.
 Conditions: none beyond those of the contracts.

 The contracts of the program's checks of grids, cursors, character sets and lists of rows, at what is proper.
 Conditions: the program's ValidString answers as VdOk says; none beyond those of the contracts.

 The contract of the program's check of a terminal, at what is proper; what is proper stays so under the mask.
 Conditions: the program's ValidString answers as VdOk says; none beyond those of the contracts.
-/
import Derived.Test.YtfdldnomelnbgaaGreatDoorJUtf
namespace Go.Proofs.YtfdldnomelnbgaaGreatDoor
open Go Go.AE Go.DE Go.RowKit

theorem s7_loop (t u : Bool) (r : Row) (i : Nat) (K : Ex → Nat → List DV → List DV → Option Unit) : execD Tryz.prog (env [] noLp 0) (loopAt Tryz.f72 58) 500 (temps 26 [0, 1, 5] [.sl t r.cell 5 r.n, .sl u r.cell 5 r.n, iv i]) [] (fun e τ _ => K e τ.length (pick [0, 1, 5] τ) (pick [] τ)) =
  bif decide ((i : Int) < (r.n : Int)) then bif decide ((i : Int) < (r.n : Int)) then bif decide (tN i < r.n) then bif decide (tN i < r.n) then bif decide (tN i < r.n) then bif decide (tN i < r.n) then
  bif decide (tN i < r.n) then bif decide ((i : Int) < (r.n : Int)) then bif decide (tN i < r.n) then bif decide (tN i < r.n) then bif decide (tN i < r.n) then bif decide (tN i < r.n) then bif decide (tN i < r.n)
  then bif bif bif r.tx (tN i) == r.tx (tN i) then bif r.wd (tN i) == r.wd (tN i) then bif bif r.fo (tN i) == r.fo (tN i) then bif r.ba (tN i) == r.ba (tN i) then bif r.fl (tN i) == r.fl (tN i) then true
  else false else false else false then true else false else false else false then false else true then K .ret 26 [.sl t r.cell 5 r.n, .sl u r.cell 5 r.n, iv (i : Int)] [] else K .normal 26 [.sl t r.cell 5 r.n, .sl u r.cell 5 r.n, iv (IntKind.wrap .i64 ((i : Int) + 1))] []
  else none else none else none else none else none else none else none else none else none else none else none else none else K (.exit 0) 26 [.sl t r.cell 5 r.n, .sl u r.cell 5 r.n, iv (i : Int)] [] := by
 kernel_rfl
structure ZS7 where
 t : Bool
 u : Bool
 r : Row
 i : Nat
noncomputable def s7I : LInv ZS7 where
 pre x := x.i ≤ x.r.n ∧ x.r.n ≤ 9000000
 m := 0
 n := 26
 ps := [0, 1, 5]
 sd x := [.sl x.t x.r.cell 5 x.r.n, .sl x.u x.r.cell 5 x.r.n, iv x.i]
 sh _ := []
 meas x := x.r.n - x.i
 e _ := .exit 0
 qs := []
 od _ := []
 oh _ := []
 guess ds _ := match ds with
  | [.sl t g 5 n, .sl u _ _ _, _] => some ⟨t, u, rowOf g n, 0⟩
  | _ => none
 cps _ k := k (.exit 0) [] []
theorem s7_ls {st : AE.Stat} : LoopS Tryz.prog st gl0 (.loop (loopAt Tryz.f72 58)) s7I.g := by
 refine s7I.ok (E := env [] noLp 0) (p := 500) (tblD_env (l := []) fun _ h => nomatch h) (glOk st).1 (fun _ _ _ h => nomatch h) (fun x k h => h) fun x hx => ?_
 obtain ⟨t, u, r, i⟩ := x
 obtain ⟨hi, hn⟩ : i ≤ r.n ∧ r.n ≤ 9000000 := hx
 have ea : (fun e τ σ => s7I.ask ⟨t, u, r, i⟩ e τ.length (pick [0, 1, 5] τ) (pick [] τ) σ : KD Unit) = fun e τ _ => s7I.ask ⟨t, u, r, i⟩ e τ.length (pick [0, 1, 5] τ) (pick [] τ) [] := by
  funext e τ σ
  exact ask_any rfl (fun _ => rfl) fun _ => rfl
 refine (congrArg (execD Tryz.prog (env [] noLp 0) (loopAt Tryz.f72 58) 500 (temps 26 [0, 1, 5] [.sl t r.cell 5 r.n, .sl u r.cell 5 r.n, iv i]) []) ea).trans ?_
 refine (s7_loop t u r i fun e n ds es => s7I.ask ⟨t, u, r, i⟩ e n ds es []).trans ?_
 simp only [Int.toNat_natCast, Nat.add_zero]
 refine dS (fun hlt => ?_) fun hge => ?_
 ·have hlt : i < r.n := by omega
  have hW : IntKind.i64.wrap ((i : Int) + 1) = ((i + 1 : Nat) : Int) := by rw [W_in (by omega) (by omega)]; omega
  rw [hW]
  have go : s7I.ask ⟨t, u, r, i⟩ .normal 26 [.sl t r.cell 5 r.n, .sl u r.cell 5 r.n, iv ((i + 1 : Nat) : Int)] [] [] = some () := LInv.ask_of ⟨rfl, ⟨t, u, r, i + 1⟩, ⟨rfl, rfl, rfl, hlt, hn⟩, by simp only [s7I]; omega, [], wk0 (.cons (.sl _ _ _ _) (.cons (.sl _ _ _ _) (.cons (.v _) .nil))) rfl⟩
  have b1 : (r.tx i == r.tx i) = true := ba_eq.2 rfl
  simp only [b1, beq_self_eq_true, cond_true, Bool.not_true, cond_false, bne_self_eq_false]
  repeat (first | exact go | refine dT (by omega) ?_ | refine dT hlt ?_)
 ·exact LInv.ask_of ⟨rfl, rfl, [], wk0 .nil rfl⟩
theorem s7_tree (t u : Bool) (r : Row) (k : DV → Option Unit) : bodyD Tryz.prog (env [] (lpOf [(58, s7I.g)]) 0) Tryz.f72 [.sl t r.cell 5 r.n, .sl u r.cell 5 r.n] [] (fun d _ => k d) =
  bif (r.n : Int) != (r.n : Int) then k (bv false) else bif holds ((Nat.le 0 (Row.n (rowOf r.cell r.n)) ∧ Nat.le (Row.n (rowOf r.cell r.n)) 9000000) ∧ ∃ ids, WkP 0 ids [.sl t r.cell 5 r.n, .sl u r.cell 5 r.n, iv 0] [] [.sl t (Row.cell (rowOf r.cell r.n)) 5 (Row.n (rowOf r.cell r.n)), .sl u (Row.cell (rowOf r.cell r.n)) 5 (Row.n (rowOf r.cell r.n)), iv 0] (LInv.sh s7I { t := t, u := u, r := rowOf r.cell r.n, i := 0 }))
  then k (bv true) else none := by
 kernel_rfl
noncomputable def s7C (Q : (Nat → Nat → DV) → Nat → Prop) : ConF := fun args k => match args with
 | [.sl _ g 5 n, .sl _ h 5 m] => bif holds (Q g n ∧ g = h ∧ n = m) then k (fun _ => (bv true, [])) else none
 | _ => none
theorem s7C_ok {st : AE.Stat} (hx : ∀ f, exA f = false → ∀ a σ, st.ext f a σ = none) : ConOk Tryz.prog st 72 (s7C cellsOk) := by
 refine con_flat (mg := []) (l := []) (lp := lpOf [(58, s7I.g)]) (n := 0) (glOk st) (fun _ h => nomatch h) Tryz.func72 (by kernel_rfl) (by kernel_rfl) (hx 72 rfl) (lp_one (by kernel_rfl) s7_ls) fun args k hk => ?_
 unfold s7C at hk
 split at hk <;> first | (cases hk; done) | skip
 rename_i t g n u h m
 obtain ⟨h0, hk2⟩ := bif_none hk
 obtain ⟨hb, e1, e2⟩ := holds_eq.1 h0
 clear hk h0
 subst e1
 subst e2
 refine ⟨[.sl t (rowOf g n).cell 5 n, .sl u (rowOf g n).cell 5 n], _, .cons (hb.cv t) (.cons (hb.cv u) .nil), v_clo _, hk2, (s7_tree t u (rowOf g n) _).trans (cF (bne_self_eq_false _) (hT ⟨⟨Nat.zero_le _, hb.1⟩, [], wk0 (.cons (.sl _ _ _ _) (.cons (.sl _ _ _ _) (.cons (.v _) .nil))) rfl⟩ (isD_of rfl)))⟩
theorem s8_loop (Q : (Nat → Nat → DV) → Nat → Prop) (t u : Bool) (T : Nat → Bool) (R : Nat → Row) (n i : Nat) (K : Ex → Nat → List DV → List DV → DHeap → Option Unit) : execD Tryz.prog (env [(72, s7C Q)] noLp 0) (loopAt Tryz.f38 58) 500 (temps 27 [0, 1, 5] [.sl t (rowsD T R) 1 n, .sl u (rowsD T R) 1 n, iv i]) [] (fun e τ σ => K e τ.length (pick [0, 1, 5] τ) (pick [] τ) σ) =
  bif decide ((i : Int) < (n : Int)) then bif decide ((i : Int) < (n : Int)) then bif decide (tN i < n) then bif decide ((i : Int) < (n : Int)) then bif decide (tN i < n) then bif holds (Q (Row.cell (R (tN i))) (Row.n (R (tN i))) ∧ Row.cell (R (tN i)) = Row.cell (R (tN i)) ∧ Row.n (R (tN i)) = Row.n (R (tN i)))
  then K .normal 27 [.sl t (fun a a_1 => DV.sl (T a) (Row.cell (R a)) 5 (Row.n (R a))) 1 n, .sl u (fun a a_1 => DV.sl (T a) (Row.cell (R a)) 5 (Row.n (R a))) 1 n, iv (IntKind.wrap .i64 ((i : Int) + 1))] [] []
  else none else none else none else none else none else K (.exit 0) 27 [.sl t (fun a a_1 => DV.sl (T a) (Row.cell (R a)) 5 (Row.n (R a))) 1 n, .sl u (fun a a_1 => DV.sl (T a) (Row.cell (R a)) 5 (Row.n (R a))) 1 n, iv (i : Int)] [] [] := by
 kernel_rfl
theorem s9_loop (t u : Bool) (z : Nat → Bool) (n i : Nat) (K : Ex → Nat → List DV → List DV → DHeap → Option Unit) : execD Tryz.prog (env [] noLp 0) (loopAt Tryz.f37 58) 500 (temps 26 [0, 1, 5] [.sl t (tabsD z) 1 n, .sl u (tabsD z) 1 n, iv i]) [] (fun e τ σ => K e τ.length (pick [0, 1, 5] τ) (pick [] τ) σ) =
  bif decide ((i : Int) < (n : Int)) then bif decide ((i : Int) < (n : Int)) then bif decide (tN i < n) then bif decide ((i : Int) < (n : Int)) then bif decide (tN i < n) then bif !z (tN i) == z (tN i)
  then K .ret 26 [.sl t (fun a a_1 => bv (z a)) 1 n, .sl u (fun a a_1 => bv (z a)) 1 n, iv (i : Int)] [] [] else K .normal 26 [.sl t (fun a a_1 => bv (z a)) 1 n, .sl u (fun a a_1 => bv (z a)) 1 n, iv (IntKind.wrap .i64 ((i : Int) + 1))] [] []
  else none else none else none else none else K (.exit 0) 26 [.sl t (fun a a_1 => bv (z a)) 1 n, .sl u (fun a a_1 => bv (z a)) 1 n, iv (i : Int)] [] [] := by
 kernel_rfl
structure ZS8 where
 t : Bool
 u : Bool
 T : Nat → Bool
 R : Nat → Row
 n : Nat
 i : Nat
noncomputable def s8I : LInv ZS8 where
 pre x := x.i ≤ x.n ∧ rowsOk x.R x.n
 m := 0
 n := 27
 ps := [0, 1, 5]
 sd x := [.sl x.t (rowsD x.T x.R) 1 x.n, .sl x.u (rowsD x.T x.R) 1 x.n, iv x.i]
 sh _ := []
 meas x := x.n - x.i
 e _ := .exit 0
 qs := []
 od _ := []
 oh _ := []
 guess ds _ := match ds with
  | [.sl t g 1 n, .sl u _ _ _, _] => some ⟨t, u, fun i => slT (g i 0), fun i => rowD (g i 0), n, 0⟩
  | _ => none
 cps _ k := k (.exit 0) [] []
theorem s8_ls {st : AE.Stat} (hx : ∀ f, exA f = false → ∀ a σ, st.ext f a σ = none) : LoopS Tryz.prog st gl0 (.loop (loopAt Tryz.f38 58)) s8I.g := by
 refine s8I.ok (E := env [(72, s7C cellsOk)] noLp 0) (p := 500) (tblD_env (l := [(72, s7C cellsOk)]) fun x h => ?_) (glOk st).1 (fun _ _ _ h => nomatch h) (fun x k h => h) fun x hx2 => ?_
 ·simp only [List.mem_cons, List.not_mem_nil, or_false] at h
  subst h
  exact s7C_ok hx
 obtain ⟨t, u, T, R, n, i⟩ := x
 obtain ⟨hi, hR⟩ : i ≤ n ∧ rowsOk R n := hx2
 have hn := hR.1
 refine (s8_loop cellsOk t u T R n i _).trans ?_
 simp only [Int.toNat_natCast, Nat.add_zero]
 refine dS (fun hlt => ?_) fun hge => ?_
 ·have hlt : i < n := by omega
  have hW : IntKind.i64.wrap ((i : Int) + 1) = ((i + 1 : Nat) : Int) := by rw [W_in (by omega) (by omega)]; omega
  rw [hW]
  refine dT (by omega) (dT hlt (dT (by omega) (dT hlt (hT ⟨Row.ok (hR.2 i hlt), by simp⟩ ?_))))
  exact LInv.ask_of ⟨rfl, ⟨t, u, T, R, n, i + 1⟩, ⟨rfl, rfl, rfl, hlt, hR⟩, by simp only [s8I]; omega, [], wk0 (.cons (.sl _ _ _ _) (.cons (.sl _ _ _ _) (.cons (.v _) .nil))) rfl⟩
 ·exact LInv.ask_of ⟨rfl, rfl, [], wk0 .nil rfl⟩
theorem s8_tree (t u : Bool) (T : Nat → Bool) (R : Nat → Row) (n : Nat) (k : DV → Option Unit) : bodyD Tryz.prog (env [] (lpOf [(58, s8I.g)]) 0) Tryz.f38 [.sl t (rowsD T R) 1 n, .sl u (rowsD T R) 1 n] [] (fun d _ => k d) =
  bif (n : Int) != (n : Int) then k (bv false) else bif holds ((Nat.le 0 n ∧ Nat.le n 9000000 ∧ ∀ (i : Nat), i < n → Nat.le (Row.n ((fun i => rowD (.sl (T i) (Row.cell (R i)) 5 (Row.n (R i)))) i)) 9000000 ∧ ∀ (i_1 : Nat), i_1 < Row.n ((fun i => rowD (.sl (T i) (Row.cell (R i)) 5 (Row.n (R i)))) i) → Nat.le (ByteArray.size (Row.tx ((fun i => rowD (.sl (T i) (Row.cell (R i)) 5 (Row.n (R i)))) i) i_1)) 9000000) ∧ ∃ ids, WkP 0 ids [.sl t (fun a a_1 => DV.sl (T a) (Row.cell (R a)) 5 (Row.n (R a))) 1 n, .sl u (fun a a_1 => DV.sl (T a) (Row.cell (R a)) 5 (Row.n (R a))) 1 n, iv 0] [] [.sl t (fun a a_1 => DV.sl ((fun i => slT (.sl (T i) (Row.cell (R i)) 5 (Row.n (R i)))) a) (Row.cell ((fun i => rowD (.sl (T i) (Row.cell (R i)) 5 (Row.n (R i)))) a)) 5 (Row.n ((fun i => rowD (.sl (T i) (Row.cell (R i)) 5 (Row.n (R i)))) a))) 1 n, .sl u (fun a a_1 => DV.sl ((fun i => slT (.sl (T i) (Row.cell (R i)) 5 (Row.n (R i)))) a) (Row.cell ((fun i => rowD (.sl (T i) (Row.cell (R i)) 5 (Row.n (R i)))) a)) 5 (Row.n ((fun i => rowD (.sl (T i) (Row.cell (R i)) 5 (Row.n (R i)))) a))) 1 n, iv 0] (LInv.sh s8I { t := t, u := u, T := fun i => slT (.sl (T i) (Row.cell (R i)) 5 (Row.n (R i))), R := fun i => rowD (.sl (T i) (Row.cell (R i)) 5 (Row.n (R i))), n := n, i := 0 }))
  then k (bv true) else none := by
 kernel_rfl
/-- Rows, small ones. -/
def rowsSo (G : Nat → Nat → DV) (n : Nat) : Prop := n ≤ 9000000 ∧ ∀ i, i < n → isRow (G i 0)
noncomputable def s8C (Q : (Nat → Nat → DV) → Nat → Prop) : ConF := fun args k => match args with
 | [.sl _ G 1 n, .sl _ H 1 m] => bif holds (Q G n ∧ G = H ∧ n = m) then k (fun _ => (bv true, [])) else none
 | _ => none
theorem s8C_ok {st : AE.Stat} (hx : ∀ f, exA f = false → ∀ a σ, st.ext f a σ = none) : ConOk Tryz.prog st 38 (s8C rowsSo) := by
 refine con_flat (mg := []) (l := []) (lp := lpOf [(58, s8I.g)]) (n := 0) (glOk st) (fun _ h => nomatch h) Tryz.func38 (by kernel_rfl) (by kernel_rfl) (hx 38 rfl) (lp_one (by kernel_rfl) (s8_ls hx)) fun args k hk => ?_
 unfold s8C at hk
 split at hk <;> first | (cases hk; done) | skip
 rename_i t G n u H m
 obtain ⟨h0, hk2⟩ := bif_none hk
 obtain ⟨hb, e1, e2⟩ := holds_eq.1 h0
 clear hk h0
 subst e1
 subst e2
 refine ⟨[.sl t (rowsD (fun i => slT (G i 0)) fun i => rowD (G i 0)) 1 n, .sl u (rowsD (fun i => slT (G i 0)) fun i => rowD (G i 0)) 1 n], _, .cons (rows_cv hb.2) (.cons (rows_cv hb.2) .nil), v_clo _, hk2, (s8_tree t u _ _ n _).trans (cF (bne_self_eq_false _) (hT ⟨⟨Nat.zero_le _, hb.1, fun i hi => (hb.2 i hi).2.row⟩, [], wk0 (.cons (.sl _ _ _ _) (.cons (.sl _ _ _ _) (.cons (.v _) .nil))) rfl⟩ (isD_of rfl)))⟩
structure ZS9 where
 t : Bool
 u : Bool
 z : Nat → Bool
 n : Nat
 i : Nat
noncomputable def s9I : LInv ZS9 where
 pre x := x.i ≤ x.n ∧ x.n ≤ 9000000
 m := 0
 n := 26
 ps := [0, 1, 5]
 sd x := [.sl x.t (tabsD x.z) 1 x.n, .sl x.u (tabsD x.z) 1 x.n, iv x.i]
 sh _ := []
 meas x := x.n - x.i
 e _ := .exit 0
 qs := []
 od _ := []
 oh _ := []
 guess ds _ := match ds with
  | [.sl t g 1 n, .sl u _ _ _, _] => some ⟨t, u, fun i => boolD (g i 0), n, 0⟩
  | _ => none
 cps _ k := k (.exit 0) [] []
theorem s9_ls {st : AE.Stat} : LoopS Tryz.prog st gl0 (.loop (loopAt Tryz.f37 58)) s9I.g := by
 refine s9I.ok (E := env [] noLp 0) (p := 500) (tblD_env (l := []) fun _ h => nomatch h) (glOk st).1 (fun _ _ _ h => nomatch h) (fun x k h => h) fun x hx2 => ?_
 obtain ⟨t, u, z, n, i⟩ := x
 obtain ⟨hi, hn⟩ : i ≤ n ∧ n ≤ 9000000 := hx2
 refine (s9_loop t u z n i _).trans ?_
 simp only [Int.toNat_natCast, Nat.add_zero]
 refine dS (fun hlt => ?_) fun hge => ?_
 ·have hlt : i < n := by omega
  have hW : IntKind.i64.wrap ((i : Int) + 1) = ((i + 1 : Nat) : Int) := by rw [W_in (by omega) (by omega)]; omega
  rw [hW]
  refine dT (by omega) (dT hlt (dT (by omega) (dT hlt (cF (by simp) ?_))))
  exact LInv.ask_of ⟨rfl, ⟨t, u, z, n, i + 1⟩, ⟨rfl, rfl, rfl, hlt, hn⟩, by simp only [s9I]; omega, [], wk0 (.cons (.sl _ _ _ _) (.cons (.sl _ _ _ _) (.cons (.v _) .nil))) rfl⟩
 ·exact LInv.ask_of ⟨rfl, rfl, [], wk0 .nil rfl⟩
theorem s9_tree (t u : Bool) (z : Nat → Bool) (n : Nat) (k : DV → Option Unit) : bodyD Tryz.prog (env [] (lpOf [(58, s9I.g)]) 0) Tryz.f37 [.sl t (tabsD z) 1 n, .sl u (tabsD z) 1 n] [] (fun d _ => k d) =
  bif (n : Int) != (n : Int) then k (bv false) else bif holds ((Nat.le 0 n ∧ Nat.le n 9000000) ∧ ∃ ids, WkP 0 ids [.sl t (fun a a_1 => bv (z a)) 1 n, .sl u (fun a a_1 => bv (z a)) 1 n, iv 0] [] [.sl t (fun a a_1 => bv ((fun i => boolD (bv (z i))) a)) 1 n, .sl u (fun a a_1 => bv ((fun i => boolD (bv (z i))) a)) 1 n, iv 0] (LInv.sh s9I { t := t, u := u, z := fun i => boolD (bv (z i)), n := n, i := 0 }))
  then k (bv true) else none := by
 kernel_rfl
def tabsSo (G : Nat → Nat → DV) (n : Nat) : Prop := n ≤ 9000000 ∧ ∀ i, i < n → G i 0 = bv (boolD (G i 0))
theorem s9C_ok {st : AE.Stat} (hx : ∀ f, exA f = false → ∀ a σ, st.ext f a σ = none) : ConOk Tryz.prog st 37 (s8C tabsSo) := by
 refine con_flat (mg := []) (l := []) (lp := lpOf [(58, s9I.g)]) (n := 0) (glOk st) (fun _ h => nomatch h) Tryz.func37 (by kernel_rfl) (by kernel_rfl) (hx 37 rfl) (lp_one (by kernel_rfl) s9_ls) fun args k hk => ?_
 unfold s8C at hk
 split at hk <;> first | (cases hk; done) | skip
 rename_i t G n u H m
 obtain ⟨h0, hk2⟩ := bif_none hk
 obtain ⟨hb, e1, e2⟩ := holds_eq.1 h0
 clear hk h0
 subst e1
 subst e2
 have hc : ∀ t, Cv (.sl t G 1 n) (.sl t (tabsD fun i => boolD (G i 0)) 1 n) := fun t => Cv.sl fun i f hi hf => .of (by obtain rfl : f = 0 := (by omega); exact hb.2 i hi)
 exact ⟨[.sl t (tabsD fun i => boolD (G i 0)) 1 n, .sl u (tabsD fun i => boolD (G i 0)) 1 n], _, .cons (hc t) (.cons (hc u) .nil), v_clo _, hk2, (s9_tree t u _ n _).trans (cF (bne_self_eq_false _) (hT ⟨⟨Nat.zero_le _, hb.1⟩, [], wk0 (.cons (.sl _ _ _ _) (.cons (.sl _ _ _ _) (.cons (.v _) .nil))) rfl⟩ (isD_of rfl)))⟩
theorem s6_tree (Q : (Nat → Nat → DV) → Nat → Prop) (w h : Int) (t : Bool) (G : Nat → Nat → DV) (n : Nat) (k : DV → Option Unit) : bodyD Tryz.prog (env [(38, s8C Q)] noLp 0) Tryz.f36 [.agg [iv w, iv h, .sl t G 1 n], .agg [iv w, iv h, .sl t G 1 n]] [] (fun d _ => k d) =
  bif w == w then bif h == h then bif holds (Q G n ∧ G = G ∧ n = n) then k (bv true) else none else k (bv false) else k (bv false) := by
 kernel_rfl
noncomputable def s6C (Q : (Nat → Nat → DV) → Nat → Prop) : ConF := fun args k => match args with
 | [.agg [.v (.int .i64 w), .v (.int .i64 h), .sl t G 1 n], .agg [.v (.int .i64 w'), .v (.int .i64 h'), .sl u H 1 m]] => bif holds (Q G n ∧ w = w' ∧ h = h' ∧ t = u ∧ G = H ∧ n = m) then k (fun _ => (bv true, [])) else none
 | _ => none
theorem s6C_ok {st : AE.Stat} (hx : ∀ f, exA f = false → ∀ a σ, st.ext f a σ = none) : ConOk Tryz.prog st 36 (s6C rowsSo) := by
 refine con_flat (mg := []) (l := [(38, s8C rowsSo)]) (lp := noLp) (n := 0) (glOk st) (fun x h => ?_) Tryz.func36 (by kernel_rfl) (by kernel_rfl) (hx 36 rfl) (fun _ _ _ h => nomatch h) fun args k hk => ?_
 ·simp only [List.mem_cons, List.not_mem_nil, or_false] at h
  subst h
  exact s8C_ok hx
 unfold s6C at hk
 split at hk <;> first | (cases hk; done) | skip
 rename_i w h t G n w' h' u H m
 obtain ⟨h0, hk2⟩ := bif_none hk
 obtain ⟨hb, e1, e2, e3, e4, e5⟩ := holds_eq.1 h0
 clear hk h0
 subst e1
 subst e2
 subst e3
 subst e4
 subst e5
 exact ⟨[.agg [iv w, iv h, .sl t G 1 n], .agg [iv w, iv h, .sl t G 1 n]], _, .self (.self .nil), v_clo _, hk2, (s6_tree rowsSo w h t G n _).trans (cT (beq_self_eq_true _) (cT (beq_self_eq_true _) (hT ⟨hb, rfl, rfl⟩ (isD_of rfl))))⟩
theorem sm_tree (Q Q2 : (Nat → Nat → DV) → Nat → Prop) (x : Tm) (k : DV → Option Unit) : bodyD Tryz.prog (env [(36, s6C Q), (37, s8C Q2), (38, s8C Q)] noLp 0) Tryz.f10 [.agg x.cells, .agg x.cells] [] (fun d _ => k d) =
  bif holds (Q (rowsD x.gT x.gR) x.gn ∧ x.I 0 = x.I 0 ∧ x.I 1 = x.I 1 ∧ false = false ∧ rowsD x.gT x.gR = rowsD x.gT x.gR ∧ x.gn = x.gn) then bif holds (Q (rowsD x.oT x.oR) x.on ∧ x.I 3 = x.I 3 ∧ x.I 4 = x.I 4 ∧ false = false ∧ rowsD x.oT x.oR = rowsD x.oT x.oR ∧ x.on = x.on)
  then bif !bif x.I 6 == x.I 6 then bif x.I 7 == x.I 7 then bif x.B 8 == x.B 8 then true else false else false else false then k (bv false) else bif !bif bif x.I 9 == x.I 9 then bif x.I 10 == x.I 10
  then bif x.B 11 == x.B 11 then true else false else false else false then bif bif x.I 12 == x.I 12 then bif x.I 13 == x.I 13 then bif x.I 14 == x.I 14 then true else false else false else false then
  bif x.B 15 == x.B 15 then bif bif x.I 16 == x.I 16 then bif x.I 17 == x.I 17 then true else false else false then bif x.I 18 == x.I 18 then true else false else false else false else false else false
  then k (bv false) else bif !bif x.I 19 == x.I 19 then bif x.I 20 == x.I 20 then bif x.I 21 == x.I 21 then true else false else false else false then k (bv false) else bif !bif x.B 22 == x.B 22 then
  bif x.B 23 == x.B 23 then bif x.B 24 == x.B 24 then bif x.B 25 == x.B 25 then bif x.B 26 == x.B 26 then bif x.B 27 == x.B 27 then bif x.B 28 == x.B 28 then bif x.B 29 == x.B 29 then bif bif x.I 30 == x.I 30
  then bif x.I 31 == x.I 31 then true else false else false then bif x.I 32 == x.I 32 then true else false else false else false else false else false else false else false else false else false else false
  then k (bv false) else bif x.I 33 == x.I 33 then bif x.I 34 == x.I 34 then bif holds (Q2 (tabsD x.tb) x.tn ∧ tabsD x.tb = tabsD x.tb ∧ x.tn = x.tn) then bif holds (Q (rowsD x.bT x.bR) x.bn ∧ rowsD x.bT x.bR = rowsD x.bT x.bR ∧ x.bn = x.bn)
  then bif ByteArray.toList (x.S 40) == ByteArray.toList (x.S 40) then k (bv (ByteArray.toList (x.S 41) == ByteArray.toList (x.S 41))) else k (bv false) else none else none else k (bv false) else k (bv false)
  else none else none := by
 kernel_rfl
noncomputable def smC (Q : List DV → Prop) : ConF := fun args k => match args with
 | [.agg l, .agg m] => bif holds (Q l ∧ l = m) then k (fun _ => (bv true, [])) else none
 | _ => none
theorem smC_ok {st : AE.Stat} (hx : ∀ f, exA f = false → ∀ a σ, st.ext f a σ = none) : ConOk Tryz.prog st 10 (smC tmOk) := by
 refine con_flat (mg := []) (l := [(36, s6C rowsSo), (37, s8C tabsSo), (38, s8C rowsSo)]) (lp := noLp) (n := 0) (glOk st) (fun x h => ?_) Tryz.func10 (by kernel_rfl) (by kernel_rfl) (hx 10 rfl) (fun _ _ _ h => nomatch h) fun args k hk => ?_
 ·simp only [List.mem_cons, List.not_mem_nil, or_false] at h
  rcases h with rfl | rfl | rfl
  ·exact s6C_ok hx
  ·exact s9C_ok hx
  ·exact s8C_ok hx
 unfold smC at hk
 split at hk <;> first | (cases hk; done) | skip
 rename_i l m
 obtain ⟨h0, hk2⟩ := bif_none hk
 obtain ⟨⟨h1, h2⟩, e1⟩ := holds_eq.1 h0
 clear hk h0
 subst e1
 refine ⟨[.agg (tmOf l).cells, .agg (tmOf l).cells], _, .cons (Cv.of (by rw [← h1])) (.cons (Cv.of (by rw [← h1])) .nil), v_clo _, hk2, (sm_tree rowsSo tabsSo (tmOf l) _).trans ?_⟩
 simp only [beq_self_eq_true, cond_true, Bool.not_true, cond_false]
 exact hT ⟨⟨h2.1.1, fun i hi => isRow_of (h2.1.2 i hi)⟩, by simp⟩ (hT ⟨⟨h2.2.1.1, fun i hi => isRow_of (h2.2.1.2 i hi)⟩, by simp⟩ (hT ⟨⟨h2.2.2.2.1, fun _ _ => rfl⟩, by simp⟩ (hT ⟨⟨h2.2.2.1.1, fun i hi => isRow_of (h2.2.2.1.2 i hi)⟩, by simp⟩ (isD_of rfl))))
end Go.Proofs.YtfdldnomelnbgaaGreatDoor

namespace Go.Proofs.YtfdldnomelnbgaaGreatDoor
open Go Go.AE Go.DE Go.RowKit

/-! ### grid.Check -/
theorem gk_loop (F : Row → Int) (w h : Int) (t : Bool) (T : Nat → Bool) (R : Nat → Row) (n i : Nat) (K : Ex → Nat → List DV → List DV → DHeap → Option Unit) : execD Tryz.prog (env [(32, rcC F)] noLp 0) (loopAt Tryz.f25 122) 500 (temps 39 [1, 22, 23, 24] [.po 0 0 0, .sl t (rowsD T R) 1 n, iv n, iv i]) [some ⟨3, .lst [[iv w, iv h, .any]]⟩] (fun e τ σ => K e τ.length (pick [1, 22, 23, 24] τ) (pick [] τ) σ) =
  bif decide ((i : Int) < (n : Int)) then bif decide ((i : Int) < (n : Int)) then bif decide (tN i < n) then bif (↑(Row.n (R (tN i))) : Int) != w then K .ret 39 [.po 0 0 0, .sl t (fun a a_1 => DV.sl (T a) (Row.cell (R a)) 5 (Row.n (R a))) 1 n, iv (n : Int), iv (i : Int)] [] [some ⟨3, .lst [[iv w, iv h, DV.any]]⟩]
  else bif holds (Nat.le (Row.n (R (tN i))) 9000000 ∧ ∀ (i_1 : Nat), i_1 < Row.n (R (tN i)) → sv (Row.tx (R (tN i)) i_1) = sv (strD (sv (Row.tx (R (tN i)) i_1))) ∧ Nat.le (ByteArray.size (strD (sv (Row.tx (R (tN i)) i_1)))) 9000000 ∧ iv (Row.wd (R (tN i)) i_1) = iv (numD (iv (Row.wd (R (tN i)) i_1))) ∧ iv (Row.fo (R (tN i)) i_1) = iv (numD (iv (Row.fo (R (tN i)) i_1))) ∧ iv (Row.ba (R (tN i)) i_1) = iv (numD (iv (Row.ba (R (tN i)) i_1))) ∧ iv (Row.fl (R (tN i)) i_1) = iv (numD (iv (Row.fl (R (tN i)) i_1))))
  then bif F { n := Row.n (R (tN i)), tx := fun i_1 => strD (sv (Row.tx (R (tN i)) i_1)), wd := fun i_1 => numD (iv (Row.wd (R (tN i)) i_1)), fo := fun i_1 => numD (iv (Row.fo (R (tN i)) i_1)), ba := fun i_1 => numD (iv (Row.ba (R (tN i)) i_1)), fl := fun i_1 => numD (iv (Row.fl (R (tN i)) i_1)) } != 0
  then K .ret 39 [.po 0 0 0, .sl t (fun a a_1 => DV.sl (T a) (Row.cell (R a)) 5 (Row.n (R a))) 1 n, iv (n : Int), iv (i : Int)] [] [some ⟨3, .lst [[iv w, iv h, DV.any]]⟩] else K .normal 39 [.po 0 0 0, .sl t (fun a a_1 => DV.sl (T a) (Row.cell (R a)) 5 (Row.n (R a))) 1 n, iv (n : Int), iv (IntKind.wrap .i64 ((i : Int) + 1))] [] [some ⟨3, .lst [[iv w, iv h, DV.any]]⟩]
  else none else none else none else K (.exit 0) 39 [.po 0 0 0, .sl t (fun a a_1 => DV.sl (T a) (Row.cell (R a)) 5 (Row.n (R a))) 1 n, iv (n : Int), iv (i : Int)] [] [some ⟨3, .lst [[iv w, iv h, DV.any]]⟩] := by
 kernel_rfl
structure ZK where
 w : Int
 h : Int
 t : Bool
 T : Nat → Bool
 R : Nat → Row
 n : Nat
 i : Nat
noncomputable def gkI : LInv ZK where
 pre x := x.i ≤ x.n ∧ rowsOk x.R x.n ∧ ∀ j, j < x.n → ((x.R j).n : Int) = x.w ∧ rowF (x.R j) = 0
 m := 1
 n := 39
 ps := [1, 22, 23, 24]
 sd x := [.po 0 0 0, .sl x.t (rowsD x.T x.R) 1 x.n, iv x.n, iv x.i]
 sh x := [some ⟨3, .lst [[iv x.w, iv x.h, .any]]⟩]
 meas x := x.n - x.i
 e _ := .exit 0
 qs := []
 od _ := []
 oh _ := [none]
 guess ds σ := match ds, σ with
  | [_, .sl t g 1 n, _, _], [some ⟨_, c⟩] => (match c.get 0 0, c.get 0 1 with
   | .v (.int _ w), .v (.int _ h) => some ⟨w, h, t, fun i => slT (g i 0), fun i => rowD (g i 0), n, 0⟩
   | _, _ => none)
  | _, _ => none
 cps _ k := k (.exit 0) [] [none]
theorem wkG {c : DC} {w h : Int} {ds ds2 : List DV} (tm : SubL (ren 1 []) ds2 ds) (hn : 1 ≤ c.n) (h0 : c.get 0 0 = iv w) (h1 : c.get 0 1 = iv h) : WkP 1 [] ds [some ⟨3, c⟩] ds2 [some ⟨3, .lst [[iv w, iv h, .any]]⟩] :=

 ⟨tm, rfl, ⟨⟨0, _, rfl, rfl, rfl, hn, trivial, fun i f hi hf => by
  obtain rfl : i = 0 := by
   have : i < 1 := hi
   omega
  have hf : f < 3 := hf
  match f with
  | 0 => show Sub _ (iv w) (c.get 0 0); rw [h0]; exact .v _
  | 1 => show Sub _ (iv h) (c.get 0 1); rw [h1]; exact .v _
  | 2 => exact .any _
  | f + 3 => omega⟩, trivial⟩, (by decide : ([some 0] : List (Option Nat)).Nodup)⟩
theorem gk_ls {st : AE.Stat} (hx : ∀ f, exA f = false → ∀ a σ, st.ext f a σ = none) (hv : VdOk st) : LoopS Tryz.prog st gl0 (.loop (loopAt Tryz.f25 122)) gkI.g := by
 refine gkI.ok (E := env [(32, rcC rowF)] noLp 0) (p := 500) (tblD_env (l := [(32, rcC rowF)]) fun x h => ?_) (glOk st).1 (fun _ _ _ h => nomatch h) (fun x k h => h) fun x hx2 => ?_
 ·simp only [List.mem_cons, List.not_mem_nil, or_false] at h
  subst h
  exact rrC_ok hx hv
 obtain ⟨w, h, t, T, R, n, i⟩ := x
 obtain ⟨hi, hR, hz⟩ : i ≤ n ∧ rowsOk R n ∧ ∀ j, j < n → ((R j).n : Int) = w ∧ rowF (R j) = 0 := hx2
 have hn := hR.1
 refine (gk_loop rowF w h t T R n i _).trans ?_
 simp only [Int.toNat_natCast, Nat.add_zero]
 refine dS (fun hlt => ?_) fun hge => ?_
 ·have hlt : i < n := by omega
  have hW : IntKind.i64.wrap ((i : Int) + 1) = ((i + 1 : Nat) : Int) := by rw [W_in (by omega) (by omega)]; omega
  rw [hW]
  obtain ⟨z1, z2⟩ := hz i hlt
  have e1 : (((R i).n : Int) != w) = false := by rw [z1]; exact bne_self_eq_false _
  have e2 : (rowF (R i) != 0) = false := by rw [z2]; rfl
  refine dT (by omega) (dT hlt (cF e1 (hT (Row.ok (hR.2 i hlt)) (cF e2 ?_))))
  exact LInv.ask_of ⟨rfl, ⟨w, h, t, T, R, n, i + 1⟩, ⟨rfl, rfl, rfl, hlt, hR, hz⟩, by simp only [gkI]; omega, [], wkG (.cons (.po rfl) (.cons (.sl _ _ _ _) (.cons (.v _) (.cons (.v _) .nil)))) (Nat.le_refl _) rfl rfl⟩
 ·exact LInv.ask_of ⟨rfl, rfl, [], wkN .nil⟩
noncomputable abbrev szP : ConF := inl2 Tryz.prog (env [] noLp 0) Tryz.f62
theorem szP_ok {st : AE.Stat} (hx : ∀ f, exA f = false → ∀ a σ, st.ext f a σ = none) : ConOk Tryz.prog st 62 szP := inl2_ok Tryz.func62 (by kernel_rfl) (by kernel_rfl) (hx 62 rfl) (glOk st) (tblD_env (l := []) fun _ h => nomatch h) (fun _ _ _ h => nomatch h)
theorem gk_tree (w h : Int) (t : Bool) (T : Nat → Bool) (R : Nat → Row) (n : Nat) (k : DV → Option Unit) : bodyD Tryz.prog (env [(62, szP)] (lpOf [(122, gkI.g)]) 0) Tryz.f25 [.agg [iv w, iv h, .sl t (rowsD T R) 1 n]] [] (fun d _ => k d) =
  bif decide (w < 1) then k (iv 2) else bif decide (w > 132) then k (iv 2) else bif decide (h < 1) then k (iv 2) else bif decide (h > 60) then k (iv 2) else bif (n : Int) != h then k (iv 1) else bif holds ((Nat.le 0 n ∧ (Nat.le n 9000000 ∧ ∀ (i : Nat), i < n → Nat.le (Row.n ((fun i => rowD (.sl (T i) (Row.cell (R i)) 5 (Row.n (R i)))) i)) 9000000 ∧ ∀ (i_1 : Nat), i_1 < Row.n ((fun i => rowD (.sl (T i) (Row.cell (R i)) 5 (Row.n (R i)))) i) → Nat.le (ByteArray.size (Row.tx ((fun i => rowD (.sl (T i) (Row.cell (R i)) 5 (Row.n (R i)))) i) i_1)) 9000000) ∧ ∀ (j : Nat), j < n → (↑(Row.n ((fun i => rowD (.sl (T i) (Row.cell (R i)) 5 (Row.n (R i)))) j)) : Int) = w ∧ rowF ((fun i => rowD (.sl (T i) (Row.cell (R i)) 5 (Row.n (R i)))) j) = 0) ∧ ∃ ids, WkP 1 ids [.po 0 0 0, .sl t (fun a a_1 => DV.sl (T a) (Row.cell (R a)) 5 (Row.n (R a))) 1 n, iv (n : Int), iv 0] [some ⟨3, .lst [[iv w, iv h, .sl t (fun a a_1 => DV.sl (T a) (Row.cell (R a)) 5 (Row.n (R a))) 1 n]]⟩] [.po 0 0 0, .sl t (fun a a_1 => DV.sl ((fun i => slT (.sl (T i) (Row.cell (R i)) 5 (Row.n (R i)))) a) (Row.cell ((fun i => rowD (.sl (T i) (Row.cell (R i)) 5 (Row.n (R i)))) a)) 5 (Row.n ((fun i => rowD (.sl (T i) (Row.cell (R i)) 5 (Row.n (R i)))) a))) 1 n, iv (n : Int), iv 0] [some ⟨3, .lst [[iv w, iv h, DV.any]]⟩])
  then k (iv 0) else none := by
 kernel_rfl
/-- What is asked of a grid. -/
def gridQ (w h : Int) (G : Nat → Nat → DV) (n : Nat) : Prop := 1 ≤ w ∧ w ≤ 132 ∧ 1 ≤ h ∧ h ≤ 60 ∧ (n : Int) = h ∧ n ≤ 9000000 ∧ ∀ i, i < n → isRow (G i 0) ∧ (slN (G i 0) : Int) = w ∧ rowF (rowD (G i 0)) = 0
noncomputable def gkC (Q : Int → Int → (Nat → Nat → DV) → Nat → Prop) : ConF := fun args k => match args with
 | [.agg [.v (.int .i64 w), .v (.int .i64 h), .sl _ G 1 n]] => bif holds (Q w h G n) then k (fun _ => (iv 0, [])) else none
 | _ => none
theorem gkC_ok {st : AE.Stat} (hx : ∀ f, exA f = false → ∀ a σ, st.ext f a σ = none) (hv : VdOk st) : ConOk Tryz.prog st 25 (gkC gridQ) := by
 refine con_flat (mg := []) (l := [(62, szP)]) (lp := lpOf [(122, gkI.g)]) (n := 0) (glOk st) (fun x h => ?_) Tryz.func25 (by kernel_rfl) (by kernel_rfl) (hx 25 rfl) (lp_one (by kernel_rfl) (gk_ls hx hv)) fun args k hk => ?_
 ·simp only [List.mem_cons, List.not_mem_nil, or_false] at h
  subst h
  exact szP_ok hx
 unfold gkC at hk
 split at hk <;> first | (cases hk; done) | skip
 rename_i w h t G n
 obtain ⟨hb, hk⟩ := bif_none hk
 obtain ⟨h1, h2, h3, h4, h5, h6, h7⟩ := holds_eq.1 hb
 have n1 : ∀ {p : Prop} [Decidable p], ¬ p → decide p = false := fun h => decide_eq_false h
 refine ⟨[.agg [iv w, iv h, .sl t (rowsD (fun i => slT (G i 0)) fun i => rowD (G i 0)) 1 n]], _, .cons (Cv.agg (.cons (Cv.of rfl) (.cons (Cv.of rfl) (.cons (rows_cv fun i hi => (h7 i hi).1) .nil)))) .nil, v_clo _, hk, (gk_tree w h t (fun i => slT (G i 0)) (fun i => rowD (G i 0)) n _).trans ?_⟩
 refine cF (n1 (by omega)) (cF (n1 (by omega)) (cF (n1 (by omega)) (cF (n1 (by omega)) (cF (by rw [h5]; exact bne_self_eq_false _) ?_))))
 exact hT ⟨⟨Nat.zero_le _, ⟨h6, fun i hi => (h7 i hi).1.2.row⟩, fun j hj => ⟨(h7 j hj).2.1, (h7 j hj).2.2⟩⟩, [], wkG (.cons (.po rfl) (.cons (.sl _ _ _ _) (.cons (.v _) (.cons (.v _) .nil)))) (Nat.le_refl _) rfl rfl⟩ (isD_of rfl)
/-! ### cursors -/
theorem wi_tree (r c : Int) (p : Bool) (w h : Int) (t : Bool) (G : Nat → Nat → DV) (n : Nat) (k : DV → Option Unit) : bodyD Tryz.prog (env [] noLp 0) Tryz.f26 [.agg [iv r, iv c, bv p], .agg [iv w, iv h, .sl t G 1 n]] [] (fun d _ => k d) =
  bif decide (r ≥ 0) then bif decide (r < h) then bif decide (c ≥ 0) then bif decide (c < w) then bif !p then k (bv true) else k (bv (c == IntKind.wrap .i64 (w - 1))) else k (bv false) else k (bv false)
  else k (bv false) else k (bv false) := by
 kernel_rfl
theorem wiC_ok {st : AE.Stat} (hx : ∀ f, exA f = false → ∀ a σ, st.ext f a σ = none) : ConOk Tryz.prog st 26 (isC insF) := by
 refine con_flat (mg := []) (l := []) (lp := noLp) (n := 0) (glOk st) (fun _ h => nomatch h) Tryz.func26 (by kernel_rfl) (by kernel_rfl) (hx 26 rfl) (fun _ _ _ h => nomatch h) fun args k hk => ?_
 unfold isC at hk
 split at hk <;> first | (cases hk; done) | skip
 refine ⟨_, _, .self (.self .nil), v_clo _, hk, (wi_tree _ _ _ _ _ _ _ _ _).trans ?_⟩
 unfold insF
 repeat' (first | exact isD_of (by simp [*]) | refine dS (fun h => ?_) (fun h => ?_) | refine cS (fun h => ?_) (fun h => ?_))
/-! ### sets -/
noncomputable abbrev s64 : ConF := inl2 Tryz.prog (env [] noLp 0) Tryz.f64
noncomputable abbrev s98 : ConF := inl2 Tryz.prog (env [(64, s64)] noLp 4) Tryz.f98
noncomputable abbrev s63 : ConF := inl2 Tryz.prog (env [(98, s98)] noLp 0) Tryz.f63
theorem st_tree (a b c : Int) (k : DV → Option Unit) : bodyD Tryz.prog (env [(63, s63)] noLp 0) Tryz.f28 [.agg [kv .u8 a, kv .u8 b], iv c] [] (fun d _ => k d) =
  bif a != 66 then bif a != 48 then k (bv false) else bif b != 66 then bif b != 48 then k (bv false) else bif c == 0 then k (bv true) else k (bv (c == 1)) else bif c == 0 then k (bv true) else k (bv (c == 1))
  else bif b != 66 then bif b != 48 then k (bv false) else bif c == 0 then k (bv true) else k (bv (c == 1)) else bif c == 0 then k (bv true) else k (bv (c == 1)) := by
 kernel_rfl
theorem s64_ok {st : AE.Stat} (hx : ∀ f, exA f = false → ∀ a σ, st.ext f a σ = none) : ConOk Tryz.prog st 64 s64 := inl2_ok Tryz.func64 (by kernel_rfl) (by kernel_rfl) (hx 64 rfl) (glOk st) (tblD_env (l := []) fun _ h => nomatch h) (fun _ _ _ h => nomatch h)
theorem s98_ok {st : AE.Stat} (hx : ∀ f, exA f = false → ∀ a σ, st.ext f a σ = none) : ConOk Tryz.prog st 98 s98 := inl2_ok Tryz.func98 (by kernel_rfl) (by kernel_rfl) (hx 98 rfl) (glOk st) (tblD_env (l := [(64, s64)]) fun x h => by
 simp only [List.mem_cons, List.not_mem_nil, or_false] at h
 subst h
 exact s64_ok hx) (fun _ _ _ h => nomatch h)
theorem s63_ok {st : AE.Stat} (hx : ∀ f, exA f = false → ∀ a σ, st.ext f a σ = none) : ConOk Tryz.prog st 63 s63 := inl2_ok Tryz.func63 (by kernel_rfl) (by kernel_rfl) (hx 63 rfl) (glOk st) (tblD_env (l := [(98, s98)]) fun x h => by
 simp only [List.mem_cons, List.not_mem_nil, or_false] at h
 subst h
 exact s98_ok hx) (fun _ _ _ h => nomatch h)
theorem stC_ok {st : AE.Stat} (hx : ∀ f, exA f = false → ∀ a σ, st.ext f a σ = none) : ConOk Tryz.prog st 28 (seC setF) := by
 refine con_flat (mg := []) (l := [(63, s63)]) (lp := noLp) (n := 0) (glOk st) (fun x h => ?_) Tryz.func28 (by kernel_rfl) (by kernel_rfl) (hx 28 rfl) (fun _ _ _ h => nomatch h) fun args k hk => ?_
 ·simp only [List.mem_cons, List.not_mem_nil, or_false] at h
  subst h
  exact s63_ok hx
 unfold seC at hk
 split at hk <;> first | (cases hk; done) | skip
 refine ⟨_, _, .self (.self .nil), v_clo _, hk, (st_tree _ _ _ _).trans ?_⟩
 unfold setF
 repeat' (first | exact isD_of (by simp_all [bne]) | refine cS (fun h => ?_) (fun h => ?_))
/-! ### rows -/
def chkFn : DV := .fn (.func 31) [] []
theorem c1_tree (F : Row → Int) (t : Bool) (r : Row) (k : DV → Option Unit) : bodyD Tryz.prog (env [(32, rcC F)] noLp 0) Tryz.f31 [.sl t r.cell 5 r.n] [] (fun d _ => k d) =
  bif holds (Nat.le r.n 9000000 ∧ ∀ (i : Nat), i < r.n → sv (r.tx i) = sv (strD (sv (r.tx i))) ∧ Nat.le (ByteArray.size (strD (sv (r.tx i)))) 9000000 ∧ iv (r.wd i) = iv (numD (iv (r.wd i))) ∧ iv (r.fo i) = iv (numD (iv (r.fo i))) ∧ iv (r.ba i) = iv (numD (iv (r.ba i))) ∧ iv (r.fl i) = iv (numD (iv (r.fl i))))
  then k (bv (F { n := r.n, tx := fun i => strD (sv (r.tx i)), wd := fun i => numD (iv (r.wd i)), fo := fun i => numD (iv (r.fo i)), ba := fun i => numD (iv (r.ba i)), fl := fun i => numD (iv (r.fl i)) } != 0))
  else none := by
 kernel_rfl
noncomputable def c1C (F : Row → Int) : ConF := fun args k => match args with
 | [.sl _ g 5 n] => bif holds (cellsOk g n) then k (fun _ => (bv (F (rowOf g n) != 0), [])) else none
 | _ => none
theorem c1C_ok {st : AE.Stat} (hx : ∀ f, exA f = false → ∀ a σ, st.ext f a σ = none) (hv : VdOk st) : ConOk Tryz.prog st 31 (c1C rowF) := by
 refine con_flat (mg := []) (l := [(32, rcC rowF)]) (lp := noLp) (n := 0) (glOk st) (fun x h => ?_) Tryz.func31 (by kernel_rfl) (by kernel_rfl) (hx 31 rfl) (fun _ _ _ h => nomatch h) fun args k hk => ?_
 ·simp only [List.mem_cons, List.not_mem_nil, or_false] at h
  subst h
  exact rrC_ok hx hv
 unfold c1C at hk
 split at hk <;> first | (cases hk; done) | skip
 rename_i t g n
 obtain ⟨hb, hk⟩ := bif_none hk
 have hb := holds_eq.1 hb
 exact ⟨[.sl t (rowOf g n).cell 5 n], _, .cons (hb.cv t) .nil, v_clo _, hk, (c1_tree rowF t (rowOf g n) _).trans (hT (Row.ok hb.row) (isD_of rfl))⟩
theorem chkFn_clo : Clo chkFn := fun C μ μ' x hx => by
 cases hx with
 | fn _ _ _ u v h1 h2 h3 h4 => exact .fn _ _ _ u v h1 h2 (fun i d x' hd => by simp at hd) fun i d x' hd => by simp at hd
theorem if_loop (F : Row → Int) (t : Bool) (T : Nat → Bool) (R : Nat → Row) (n i : Nat) (K : Ex → Nat → List DV → List DV → DHeap → Option Unit) : execD Tryz.prog (env [(31, c1C F)] noLp 0) (loopAt Tryz.f66 26) 500 (temps 19 [0, 1, 7, 8] [.sl t (rowsD T R) 1 n, chkFn, iv n, iv i]) [] (fun e τ σ => K e τ.length (pick [0, 1, 7, 8] τ) (pick [] τ) σ) =
  bif decide ((i : Int) < (n : Int)) then bif decide ((i : Int) < (n : Int)) then bif decide (tN i < n) then bif holds (Nat.le (Row.n (R (tN i))) 9000000 ∧ ∀ (i_1 : Nat), i_1 < Row.n (R (tN i)) → sv (Row.tx (R (tN i)) i_1) = sv (strD (sv (Row.tx (R (tN i)) i_1))) ∧ Nat.le (ByteArray.size (strD (sv (Row.tx (R (tN i)) i_1)))) 9000000 ∧ iv (Row.wd (R (tN i)) i_1) = iv (numD (iv (Row.wd (R (tN i)) i_1))) ∧ iv (Row.fo (R (tN i)) i_1) = iv (numD (iv (Row.fo (R (tN i)) i_1))) ∧ iv (Row.ba (R (tN i)) i_1) = iv (numD (iv (Row.ba (R (tN i)) i_1))) ∧ iv (Row.fl (R (tN i)) i_1) = iv (numD (iv (Row.fl (R (tN i)) i_1))))
  then bif F (rowOf (Row.cell (R (tN i))) (Row.n (R (tN i)))) != 0 then K .ret 19 [.sl t (fun a a_1 => DV.sl (T a) (Row.cell (R a)) 5 (Row.n (R a))) 1 n, .fn (Fn.func 31) [] [], iv (n : Int), iv (i : Int)] [] []
  else K .normal 19 [.sl t (fun a a_1 => DV.sl (T a) (Row.cell (R a)) 5 (Row.n (R a))) 1 n, .fn (Fn.func 31) [] [], iv (n : Int), iv (IntKind.wrap .i64 ((i : Int) + 1))] [] [] else none else none else none
  else K (.exit 0) 19 [.sl t (fun a a_1 => DV.sl (T a) (Row.cell (R a)) 5 (Row.n (R a))) 1 n, .fn (Fn.func 31) [] [], iv (n : Int), iv (i : Int)] [] [] := by
 kernel_rfl
structure ZIf where
 t : Bool
 T : Nat → Bool
 R : Nat → Row
 n : Nat
 i : Nat
noncomputable def ifI : LInv ZIf where
 pre x := x.i ≤ x.n ∧ rowsOk x.R x.n ∧ ∀ j, j < x.n → rowF (x.R j) = 0
 m := 0
 n := 19
 ps := [0, 1, 7, 8]
 sd x := [.sl x.t (rowsD x.T x.R) 1 x.n, chkFn, iv x.n, iv x.i]
 sh _ := []
 meas x := x.n - x.i
 e _ := .exit 0
 qs := []
 od _ := []
 oh _ := []
 guess ds _ := match ds with
  | [.sl t g 1 n, _, _, _] => some ⟨t, fun i => slT (g i 0), fun i => rowD (g i 0), n, 0⟩
  | _ => none
 cps _ k := k (.exit 0) [] []
theorem if_ls {st : AE.Stat} (hx : ∀ f, exA f = false → ∀ a σ, st.ext f a σ = none) (hv : VdOk st) : LoopS Tryz.prog st gl0 (.loop (loopAt Tryz.f66 26)) ifI.g := by
 refine ifI.ok (E := env [(31, c1C rowF)] noLp 0) (p := 500) (tblD_env (l := [(31, c1C rowF)]) fun x h => ?_) (glOk st).1 (fun _ _ _ h => nomatch h) (fun x k h => h) fun x hx2 => ?_
 ·simp only [List.mem_cons, List.not_mem_nil, or_false] at h
  subst h
  exact c1C_ok hx hv
 obtain ⟨t, T, R, n, i⟩ := x
 obtain ⟨hi, hR, hz⟩ : i ≤ n ∧ rowsOk R n ∧ ∀ j, j < n → rowF (R j) = 0 := hx2
 have hn := hR.1
 refine (if_loop rowF t T R n i _).trans ?_
 simp only [Int.toNat_natCast, Nat.add_zero]
 refine dS (fun hlt => ?_) fun hge => ?_
 ·have hlt : i < n := by omega
  have hW : IntKind.i64.wrap ((i : Int) + 1) = ((i + 1 : Nat) : Int) := by rw [W_in (by omega) (by omega)]; omega
  rw [hW]
  have e2 : (rowF (R i) != 0) = false := by rw [hz i hlt]; rfl
  refine dT (by omega) (dT hlt (hT (Row.ok (hR.2 i hlt)) (cF e2 ?_)))
  exact LInv.ask_of ⟨rfl, ⟨t, T, R, n, i + 1⟩, ⟨rfl, rfl, rfl, hlt, hR, hz⟩, by simp only [ifI]; omega, [], wk0 (.cons (.sl _ _ _ _) (.cons (.of_clo chkFn_clo) (.cons (.v _) (.cons (.v _) .nil)))) rfl⟩
 ·exact LInv.ask_of ⟨rfl, rfl, [], wk0 .nil rfl⟩
theorem if_tree (t : Bool) (T : Nat → Bool) (R : Nat → Row) (n : Nat) (k : DV → Option Unit) : bodyD Tryz.prog (env [] (lpOf [(26, ifI.g)]) 0) Tryz.f66 [.sl t (rowsD T R) 1 n, chkFn] [] (fun d _ => k d) =
  bif holds ((Nat.le 0 n ∧ (Nat.le n 9000000 ∧ ∀ (i : Nat), i < n → Nat.le (Row.n ((fun i => rowD (.sl (T i) (Row.cell (R i)) 5 (Row.n (R i)))) i)) 9000000 ∧ ∀ (i_1 : Nat), i_1 < Row.n ((fun i => rowD (.sl (T i) (Row.cell (R i)) 5 (Row.n (R i)))) i) → Nat.le (ByteArray.size (Row.tx ((fun i => rowD (.sl (T i) (Row.cell (R i)) 5 (Row.n (R i)))) i) i_1)) 9000000) ∧ ∀ (j : Nat), j < n → rowF ((fun i => rowD (.sl (T i) (Row.cell (R i)) 5 (Row.n (R i)))) j) = 0) ∧ ∃ ids, WkP 0 ids [.sl t (fun a a_1 => DV.sl (T a) (Row.cell (R a)) 5 (Row.n (R a))) 1 n, .fn (Fn.func 31) [] [], iv (n : Int), iv 0] [] [.sl t (fun a a_1 => DV.sl ((fun i => slT (.sl (T i) (Row.cell (R i)) 5 (Row.n (R i)))) a) (Row.cell ((fun i => rowD (.sl (T i) (Row.cell (R i)) 5 (Row.n (R i)))) a)) 5 (Row.n ((fun i => rowD (.sl (T i) (Row.cell (R i)) 5 (Row.n (R i)))) a))) 1 n, .fn (Fn.func 31) [] [], iv (n : Int), iv 0] (LInv.sh ifI { t := t, T := fun i => slT (.sl (T i) (Row.cell (R i)) 5 (Row.n (R i))), R := fun i => rowD (.sl (T i) (Row.cell (R i)) 5 (Row.n (R i))), n := n, i := 0 }))
  then k (iv (-1 : Int)) else none := by
 kernel_rfl
/-- What is asked of the rows that went out of sight. -/
def backQ (G : Nat → Nat → DV) (n : Nat) : Prop := rowsSo G n ∧ ∀ i, i < n → rowF (rowD (G i 0)) = 0
noncomputable def ifC (Q : (Nat → Nat → DV) → Nat → Prop) (d : DV) : ConF := fun args k => match args with
 | [.sl _ G 1 n, .fn (.func 31) [] []] => bif holds (Q G n) then k (fun _ => (d, [])) else none
 | _ => none
theorem ifC_ok {st : AE.Stat} (hx : ∀ f, exA f = false → ∀ a σ, st.ext f a σ = none) (hv : VdOk st) : ConOk Tryz.prog st 66 (ifC backQ (iv (-1))) := by
 refine con_flat (mg := []) (l := []) (lp := lpOf [(26, ifI.g)]) (n := 0) (glOk st) (fun _ h => nomatch h) Tryz.func66 (by kernel_rfl) (by kernel_rfl) (hx 66 rfl) (lp_one (by kernel_rfl) (if_ls hx hv)) fun args k hk => ?_
 unfold ifC at hk
 split at hk <;> first | (cases hk; done) | skip
 rename_i t G n
 obtain ⟨hb, hk⟩ := bif_none hk
 obtain ⟨hb, hz⟩ := holds_eq.1 hb
 exact ⟨[.sl t (rowsD (fun i => slT (G i 0)) fun i => rowD (G i 0)) 1 n, chkFn], _, .cons (rows_cv hb.2) (.self .nil), v_clo _, hk, (if_tree t _ _ n _).trans (hT ⟨⟨Nat.zero_le _, ⟨hb.1, fun i hi => (hb.2 i hi).2.row⟩, hz⟩, [], wk0 (.cons (.sl _ _ _ _) (.cons (.of_clo chkFn_clo) (.cons (.v _) (.cons (.v _) .nil)))) rfl⟩ (isD_of rfl))⟩
theorem cf_tree (Q : (Nat → Nat → DV) → Nat → Prop) (t : Bool) (G : Nat → Nat → DV) (n : Nat) (k : DV → Option Unit) : bodyD Tryz.prog (env [(66, ifC Q (iv (-1)))] noLp 0) Tryz.f30 [.sl t G 1 n, chkFn] [] (fun d _ => k d) =
  bif holds (Q G n) then k (bv (decide ((-1 : Int) ≥ 0))) else none := by
 kernel_rfl
theorem cfC_ok {st : AE.Stat} (hx : ∀ f, exA f = false → ∀ a σ, st.ext f a σ = none) (hv : VdOk st) : ConOk Tryz.prog st 30 (ifC backQ (bv false)) := by
 refine con_flat (mg := []) (l := [(66, ifC backQ (iv (-1)))]) (lp := noLp) (n := 0) (glOk st) (fun x h => ?_) Tryz.func30 (by kernel_rfl) (by kernel_rfl) (hx 30 rfl) (fun _ _ _ h => nomatch h) fun args k hk => ?_
 ·simp only [List.mem_cons, List.not_mem_nil, or_false] at h
  subst h
  exact ifC_ok hx hv
 unfold ifC at hk
 split at hk <;> first | (cases hk; done) | skip
 rename_i t G n
 obtain ⟨hb, hk⟩ := bif_none hk
 exact ⟨[.sl t G 1 n, chkFn], _, .self (.self .nil), v_clo _, hk, (cf_tree backQ t G n _).trans (hT (holds_eq.1 hb) (isD_of rfl))⟩
end Go.Proofs.YtfdldnomelnbgaaGreatDoor

namespace Go.Proofs.YtfdldnomelnbgaaGreatDoor
open Go Go.AE Go.DE Go.RowKit

noncomputable abbrev tcL (Q : Int → Int → (Nat → Nat → DV) → Nat → Prop) (I : Int → Int → Bool → Int → Int → Bool) (A : Int → Int → Int → Int) (S : Int → Int → Int → Bool) (V : ByteArray → Bool) (Q2 : (Nat → Nat → DV) → Nat → Prop) : List (FuncId × ConF) := [(25, gkC Q), (26, isC I), (27, atC A), (28, seC S), (29, vaG V), (30, ifC Q2 (bv false))]
theorem tck_tree (Q : Int → Int → (Nat → Nat → DV) → Nat → Prop) (I : Int → Int → Bool → Int → Int → Bool) (A : Int → Int → Int → Int) (S : Int → Int → Int → Bool) (V : ByteArray → Bool) (Q2 : (Nat → Nat → DV) → Nat → Prop) (x : Tm) (k : DV → Option Unit) : bodyD Tryz.prog (env (tcL Q I A S V Q2) noLp 0) Tryz.f8 [.agg x.cells] [] (fun d _ => k d) =
  bif holds (Q (x.I 0) (x.I 1) (rowsD x.gT x.gR) x.gn) then bif holds (Q (x.I 3) (x.I 4) (rowsD x.oT x.oR) x.on) then bif x.I 0 == x.I 3 then bif x.I 1 == x.I 4 then bif I (x.I 6) (x.I 7) (x.B 8) (x.I 0) (x.I 1)
  then bif I (x.I 9) (x.I 10) (x.B 11) (x.I 0) (x.I 1) then bif A (x.I 19) (x.I 20) (x.I 21) == 0 then bif A (x.I 12) (x.I 13) (x.I 14) == 0 then bif S (x.I 30) (x.I 31) (x.I 32) then bif S (x.I 16) (x.I 17) (x.I 18)
  then bif decide (x.I 33 ≥ 0) then bif decide (x.I 33 < x.I 34) then bif decide (x.I 34 ≤ x.I 1) then bif (x.tn : Int) == x.I 0 then bif decide ((x.bn : Int) ≤ 500) then bif decide (ByteArray.size (x.S 40) ≤ 9000000)
  then bif !V (x.S 40) then k (iv 1) else bif holds (Q2 (rowsD x.bT x.bR) x.bn) then k (iv 0) else none else none else k (iv 1) else k (iv 1) else k (iv 1) else k (iv 1) else k (iv 1) else k (iv 1) else k (iv 1)
  else k (iv 1) else k (iv 1) else k (iv 1) else k (iv 1) else k (iv 1) else k (iv 1) else none else none := by
 kernel_rfl
/-! ### What is proper for the program -/
theorem star_cc : ccF starT = 0 := by kernel_rfl
theorem star_cd : cdF starT = 1 := by kernel_rfl
theorem wide_cc : ccF wideT = 0 := by kernel_rfl
theorem wide_cd : cdF wideT = 2 := by kernel_rfl
theorem msk_cc {r : Row} {i : Nat} (hi : i < r.n) (h0 : ((r.wd i != 1) && (r.wd i != 2)) = false) (h1 : ccF (r.tx i) = 0) (h2 : cdF (r.tx i) = r.wd i) : ccF (r.msk.tx i) = 0 ∧ cdF (r.msk.tx i) = r.wd i := by
 rw [msk_tx hi]
 unfold mkT
 cases shown (r.fl i) with
 | true => exact ⟨h1, h2⟩
 | false =>
  rw [cond_false]
  cases a : r.wd i == 1 with
  | true => exact ⟨star_cc, star_cd.trans (by simpa using Eq.symm (by simpa using a))⟩
  | false =>
   rw [cond_false]
   cases b : r.wd i == 2 with
   | true => exact ⟨wide_cc, wide_cd.trans (by simpa using Eq.symm (by simpa using b))⟩
   | false => exact ⟨h1, h2⟩
theorem cond_yb {b c : Bool} (h : (bif b then c else false) = true) : b = true ∧ c = true := by
 cases b with
 | true => exact ⟨rfl, h⟩
 | false => cases h
theorem msk_half {r : Row} {i j : Nat} (hj : j < r.n) (h : r.half i j = true) : r.msk.half i j = true := by
 unfold Row.half at h ⊢
 obtain ⟨a1, h⟩ := cond_yb h
 obtain ⟨a2, h⟩ := cond_yb h
 have e1 : r.msk.tx j = r.tx j := by
  rw [msk_tx hj]
  unfold mkT
  have e : r.wd j = 0 := by simpa using a2
  rw [e]
  cases shown (r.fl j) <;> rfl
 have e2 : r.msk.wd j = r.wd j := rfl
 rw [e1, a1, e2, a2]
 exact h
theorem p7_msk {r : Row} : ∀ (m i : Nat), p7 ccF cdF r m i = 0 → p7 ccF cdF r.msk m i = 0
 | 0, _, _ => rfl
 | m + 1, i, h => by
  rw [p7] at h
  rw [p7]
  by_cases hi : i < r.n
  ·rw [if_pos hi] at h
   rw [if_pos (show i < r.msk.n from hi)]
   unfold p7s at h
   unfold p7s
   obtain ⟨h1, h⟩ := cond_n h (by decide)
   obtain ⟨h2, h⟩ := cond_n h (by decide)
   obtain ⟨h3, h⟩ := cond_n h (by decide)
   obtain ⟨e1, e2⟩ := msk_cc hi h1 (by simpa using h2) (by simpa using h3)
   have ew : r.msk.wd i = r.wd i := rfl
   have en : r.msk.n = r.n := rfl
   rw [ew, en, h1, e1, e2]
   simp only [bne_self_eq_false, cond_false]
   cases h4 : r.wd i == 1 with
   | true =>
    rw [h4, cond_true] at h
    exact p7_msk m _ h
   | false =>
    rw [h4, cond_false] at h
    obtain ⟨h5, h⟩ := cond_n h (by decide)
    obtain ⟨h6, h⟩ := cond_y h (by decide)
    have h5' : ¬ ((i + 1 : Nat) : Int) = (r.n : Int) := by simpa using h5
    rw [h5, msk_half (by omega) h6]
    exact p7_msk m _ h
  ·rw [if_neg (show ¬ i < r.msk.n from hi)]
theorem rowF_msk {r : Row} (h : rowF r = 0) : rowF r.msk = 0 := by
 unfold rowF at h ⊢
 obtain ⟨h1, h⟩ := cond_n h (by decide)
 obtain ⟨h2, h⟩ := cond_n h (by decide)
 have en : r.msk.n = r.n := rfl
 rw [en, h1, h2]
 exact p7_msk _ _ h
/-- What is so of the rows of a proper grid. -/
def gridP (w h : Int) (R : Nat → Row) (n : Nat) : Prop := 1 ≤ w ∧ w ≤ 132 ∧ 1 ≤ h ∧ h ≤ 60 ∧ (n : Int) = h ∧ ∀ j, j < n → ((R j).n : Int) = w ∧ rowF (R j) = 0
/-- What is so of a terminal that the program takes for proper. -/
structure PrpP (x : Tm) : Prop where
 g : gridP (x.I 0) (x.I 1) x.gR x.gn
 o : gridP (x.I 3) (x.I 4) x.oR x.on
 w : x.I 0 = x.I 3
 h : x.I 1 = x.I 4
 c : insF (x.I 6) (x.I 7) (x.B 8) (x.I 0) (x.I 1) = true
 d : insF (x.I 9) (x.I 10) (x.B 11) (x.I 0) (x.I 1) = true
 a : atF (x.I 19) (x.I 20) (x.I 21) = 0
 a2 : atF (x.I 12) (x.I 13) (x.I 14) = 0
 s : setF (x.I 30) (x.I 31) (x.I 32) = true
 s2 : setF (x.I 16) (x.I 17) (x.I 18) = true
 t0 : 0 ≤ x.I 33
 t1 : x.I 33 < x.I 34
 t2 : x.I 34 ≤ x.I 1
 tn : (x.tn : Int) = x.I 0
 bn : (x.bn : Int) ≤ 500
 v : vdF (x.S 40) = true
 b : ∀ j, j < x.bn → rowF (x.bR j) = 0
theorem at_rgt {a b c : Int} (h : rgtF a b c ≠ 0) : atF a b c = 0 := by
 unfold rgtF at h
 unfold atF
 cases h1 : decide (a < -1) <;> cases h2 : decide (a > 255) <;> cases h3 : decide (b < -1) <;> cases h4 : decide (b > 255) <;> cases h5 : decide (c < 0) <;> cases h6 : decide (c > 255) <;> first | rfl | (rw [h1, h2, h3, h4, h5, h6] at h; exact absurd rfl h)
theorem Prp.pp {x : Tm} (p : Prp x) : PrpP x := by
 obtain ⟨g1, g2, g3, g4, g5, g6⟩ := check8_zero p.g
 obtain ⟨o1, o2, o3, o4, o5, o6⟩ := check8_zero p.o
 exact ⟨⟨g1, g2, g3, g4, g5, fun j hj => ⟨(g6 j hj).1, (check7_zero (g6 j hj).2).1⟩⟩, ⟨o1, o2, o3, o4, o5, fun j hj => ⟨(o6 j hj).1, (check7_zero (o6 j hj).2).1⟩⟩, p.w, p.h, p.c, p.d, at_rgt p.a, at_rgt p.a2, p.s, p.s2, p.t0, p.t1, p.t2, p.tn, p.bn, valid_vd p.v, fun j hj => (check7_zero (p.b j hj)).1⟩
theorem gridP.msk {w h : Int} {R : Nat → Row} {n : Nat} (p : gridP w h R n) : gridP w h (mskR R) n := ⟨p.1, p.2.1, p.2.2.1, p.2.2.2.1, p.2.2.2.2.1, fun j hj => ⟨(p.2.2.2.2.2 j hj).1, rowF_msk (p.2.2.2.2.2 j hj).2⟩⟩
/-- What is proper stays so under the mask. -/
theorem PrpP.msk {x : Tm} (p : PrpP x) : PrpP x.msk := ⟨p.g.msk, p.o.msk, p.w, p.h, p.c, p.d, p.a, p.a2, p.s, p.s2, p.t0, p.t1, p.t2, p.tn, p.bn, p.v, fun j hj => rowF_msk (p.b j hj)⟩
theorem PrpP.show {x : Tm} (p : PrpP x) : showF x = allF (fun i => !hasBad (x.gR i)) x.gn 0 := by
 obtain ⟨a1, a2, a3, a4, a5, a6⟩ := p.g
 have c := p.c
 unfold insF at c
 simp only [Bool.and_eq_true, decide_eq_true_eq] at c
 obtain ⟨⟨⟨⟨c1, c2⟩, c3⟩, c4⟩, _⟩ := c
 unfold showF
 have e4 : (!decide (x.I 1 ≤ 60)) = false := by rw [decide_eq_true a4]; rfl
 have e5 : ((x.gn : Int) != x.I 1) = false := by rw [a5]; simp
 have e6 : decide (x.I 6 < 0) = false := decide_eq_false (by omega)
 have e7 : decide (x.I 6 ≥ x.I 1) = false := decide_eq_false (by omega)
 have e8 : decide (x.I 7 < 0) = false := decide_eq_false (by omega)
 have e9 : decide (x.I 7 ≥ x.I 0) = false := decide_eq_false (by omega)
 rw [decide_eq_true (show x.I 0 ≥ 1 from a1), decide_eq_true a2, decide_eq_true (show x.I 1 ≥ 1 from a3), e4, e5, e6, e7, e8, e9]
 show allF (fun i => rowSo (x.I 0) (x.gR i)) x.gn 0 = _
 have e : ∀ j, j < x.gn → rowSo (x.I 0) (x.gR j) = !hasBad (x.gR j) := fun j hj => by
  obtain ⟨q1, q2⟩ := a6 j hj
  unfold rowSo
  rw [q1, q2]
  simp only [bne_self_eq_false, cond_false]
  cases hasBad (x.gR j) <;> rfl
 rw [Bool.eq_iff_iff, allF_iff, allF_iff]
 exact ⟨fun h j h1 h2 => by rw [← e j (by omega)]; exact h j h1 h2, fun h j h1 h2 => by rw [e j (by omega)]; exact h j h1 h2⟩
/-- Alike terminals that are proper for the program have the same view. -/
theorem alike_viewP {x y : Tm} (h : x.msk.key = y.msk.key) (p : PrpP x) (q : PrpP y) : viE x y = true := by
 obtain ⟨e1, e2, e3, e4, e5, e6, e7⟩ := key_rows h
 have es : showF x = showF y := by
  rw [p.show, q.show, ← e1, Bool.eq_iff_iff, allF_iff, allF_iff]
  exact ⟨fun h j h1 h2 => by rw [← bad_key (e2 j (by omega))]; exact h j h1 h2, fun h j h1 h2 => by rw [bad_key (e2 j (by omega))]; exact h j h1 h2⟩
 unfold viE viN
 rw [es, e3, e4, e5, e6, e7, e1, beq_self_eq_true, beq_self_eq_true, beq_self_eq_true, beq_self_eq_true, beq_self_eq_true]
 cases showF y with
 | true => exact gls_refl rfl fun i hi => viR_key (e2 i (by rw [e1]; exact hi))
 | false => exact gls_refl (R := fun i => viR (x.gR i)) (S := fun i => viR (y.gR i)) rfl fun i hi => absurd hi (Nat.not_lt_zero i)
/-! ### The check -/
noncomputable def tcC (Q : List DV → Prop) : ConF := fun args k => match args with
 | [.agg l] => bif holds (Q l) then k (fun _ => (iv 0, [])) else none
 | _ => none
def tckQ (l : List DV) : Prop := l = (tmOf l).cells ∧ (tmOf l).ok ∧ PrpP (tmOf l)
theorem tck_true (x : Tm) (hok : x.ok) (p : PrpP x) : bodyD Tryz.prog (env (tcL gridQ insF atF setF vdF backQ) noLp 0) Tryz.f8 [.agg x.cells] [] (fun d _ => isD (iv 0) d) = some () := by
 refine (tck_tree gridQ insF atF setF vdF backQ x _).trans ?_
 have qg : ∀ {w h : Int} {T : Nat → Bool} {R : Nat → Row} {n : Nat}, rowsOk R n → gridP w h R n → gridQ w h (rowsD T R) n := fun ok p => ⟨p.1, p.2.1, p.2.2.1, p.2.2.2.1, p.2.2.2.2.1, ok.1, fun i hi => ⟨isRow_of (ok.2 i hi), (p.2.2.2.2.2 i hi).1, (p.2.2.2.2.2 i hi).2⟩⟩
 refine hT (qg hok.1 p.g) (hT (qg hok.2.1 p.o) (cT (by rw [p.w]; exact beq_self_eq_true _) (cT (by rw [p.h]; exact beq_self_eq_true _) (cT p.c (cT p.d (cT (by rw [p.a]; rfl) (cT (by rw [p.a2]; rfl) (cT p.s (cT p.s2 (cT (decide_eq_true p.t0) (cT (decide_eq_true p.t1) (cT (decide_eq_true p.t2) (cT (by rw [p.tn]; exact beq_self_eq_true _) (cT (decide_eq_true p.bn) (cT (decide_eq_true hok.2.2.2.2.1) (cF (by rw [p.v]; rfl) (hT ⟨⟨hok.2.2.1.1, fun i hi => isRow_of (hok.2.2.1.2 i hi)⟩, p.b⟩ (isD_of rfl))))))))))))))))))
theorem tcC_ok {st : AE.Stat} (hx : ∀ f, exA f = false → ∀ a σ, st.ext f a σ = none) (hv : VdOk st) : ConOk Tryz.prog st 8 (tcC tckQ) := by
 refine con_flat (mg := []) (l := tcL gridQ insF atF setF vdF backQ) (lp := noLp) (n := 0) (glOk st) (fun x h => ?_) Tryz.func8 (by kernel_rfl) (by kernel_rfl) (hx 8 rfl) (fun _ _ _ h => nomatch h) fun args k hk => ?_
 ·simp only [tcL, List.mem_cons, List.not_mem_nil, or_false] at h
  rcases h with rfl | rfl | rfl | rfl | rfl | rfl
  ·exact gkC_ok hx hv
  ·exact wiC_ok hx
  ·exact atC_ok hx
  ·exact stC_ok hx
  ·exact vdC_ok hx hv
  ·exact cfC_ok hx hv
 unfold tcC at hk
 split at hk <;> first | (cases hk; done) | skip
 rename_i l
 obtain ⟨hb, hk⟩ := bif_none hk
 obtain ⟨h1, h2, h3⟩ := holds_eq.1 hb
 exact ⟨[.agg (tmOf l).cells], _, .cons (Cv.of (by rw [← h1])) .nil, v_clo _, hk, tck_true (tmOf l) h2 h3⟩
end Go.Proofs.YtfdldnomelnbgaaGreatDoor
