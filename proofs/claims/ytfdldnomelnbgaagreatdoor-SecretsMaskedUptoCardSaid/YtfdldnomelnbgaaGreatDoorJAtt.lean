/-
 The contracts of the program's check of renditions and of the search for a cell with a wrong one.
 Conditions: none beyond those of the contracts.

 The contract of showable.
 Conditions: the program's ValidString answers as VdOk says; none beyond those of the contracts.
-/
import Derived.Test.YtfdldnomelnbgaaGreatDoorJSam
import Derived.Test.YtfdldnomelnbgaaGreatDoorJMas
import Derived.Test.YtfdldnomelnbgaaGreatDoorJRc
namespace Go.Proofs.YtfdldnomelnbgaaGreatDoor
open Go Go.AE Go.DE Go.RowKit

theorem at_tree (a b c : Int) (k : DV → Option Unit) : bodyD Tryz.prog (env [] noLp 30) Tryz.f27 [.agg [iv a, iv b, iv c]] [] (fun d _ => k d) =
  bif decide (a < (-1 : Int)) then k (iv 2) else bif decide (a > 255) then k (iv 2) else bif decide (b < (-1 : Int)) then k (iv 2) else bif decide (b > 255) then k (iv 2) else bif decide (c < 0) then k (iv 2)
  else bif decide (c > 255) then k (iv 2) else k (iv 0) := by
 kernel_rfl
/-- The check of a rendition. -/
def atF (a b c : Int) : Int :=

 bif decide (a < -1) then 2 else bif decide (a > 255) then 2 else bif decide (b < -1) then 2 else bif decide (b > 255) then 2 else bif decide (c < 0) then 2 else bif decide (c > 255) then 2 else 0
noncomputable def atC (F : Int → Int → Int → Int) : ConF := fun args k => match args with
 | [.agg [.v (.int .i64 a), .v (.int .i64 b), .v (.int .i64 c)]] => k (fun _ => (iv (F a b c), []))
 | _ => none
theorem atC_ok {st : AE.Stat} (hx : ∀ f, exA f = false → ∀ a σ, st.ext f a σ = none) : ConOk Tryz.prog st 27 (atC atF) := by
 refine con_flat (mg := []) (l := []) (lp := noLp) (n := 30) (glOk st) (fun _ h => nomatch h) Tryz.func27 (by kernel_rfl) (by kernel_rfl) (hx 27 rfl) (fun _ _ _ h => nomatch h) fun args k hk => ?_
 unfold atC at hk
 split at hk <;> first | (cases hk; done) | skip
 rename_i a b c
 refine ⟨[.agg [iv a, iv b, iv c]], _, .self .nil, v_clo _, hk, (at_tree a b c _).trans ?_⟩
 unfold atF
 refine cS (fun h => isD_of (by rw [h]; rfl)) fun h => cS (fun h2 => isD_of (by rw [h, h2]; rfl)) fun h2 => cS (fun h3 => isD_of (by rw [h, h2, h3]; rfl)) fun h3 => cS (fun h4 => isD_of (by rw [h, h2, h3, h4]; rfl)) fun h4 => cS (fun h5 => isD_of (by rw [h, h2, h3, h4, h5]; rfl)) fun h5 => cS (fun h6 => isD_of (by rw [h, h2, h3, h4, h5, h6]; rfl)) fun h6 => isD_of (by rw [h, h2, h3, h4, h5, h6]; rfl)
theorem sh_tree (F : Int → Int → Int → Int) (s : ByteArray) (w a b c : Int) (k : DV → Option Unit) : bodyD Tryz.prog (env [(27, atC F)] noLp 0) Tryz.f75 [.agg [sv s, iv w, iv a, iv b, iv c]] [] (fun d _ => k d) =
  k (bv (F a b c != 0)) := by
 kernel_rfl
noncomputable def shC (F : Int → Int → Int → Int) : ConF := fun args k => match args with
 | [.agg [.v (.string _), .v (.int .i64 _), .v (.int .i64 a), .v (.int .i64 b), .v (.int .i64 c)]] => k (fun _ => (bv (F a b c != 0), []))
 | _ => none
def badFn : DV := .fn (.func 75) [] []
theorem ix_loop (F : Int → Int → Int → Int) (t : Bool) (r : Row) (i : Nat) (K : Ex → Nat → List DV → List DV → Option Unit) : execD Tryz.prog (env [(75, shC F)] noLp 0) (loopAt Tryz.f102 26) 500 (temps 19 [0, 1, 7, 8] [.sl t r.cell 5 r.n, badFn, iv r.n, iv i]) [] (fun e τ _ => K e τ.length (pick [0, 1, 7, 8] τ) (pick [4] τ)) =
  bif decide ((i : Int) < (r.n : Int)) then bif decide ((i : Int) < (r.n : Int)) then bif decide (tN i < r.n) then bif decide (tN i < r.n) then bif decide (tN i < r.n) then bif decide (tN i < r.n) then
  bif decide (tN i < r.n) then bif F (r.fo (tN i)) (r.ba (tN i)) (r.fl (tN i)) != 0 then K .ret 19 [.sl t r.cell 5 r.n, .fn (Fn.func 75) [] [], iv (r.n : Int), iv (i : Int)] [iv (i : Int)] else K .normal 19 [.sl t r.cell 5 r.n, .fn (Fn.func 75) [] [], iv (r.n : Int), iv (IntKind.wrap .i64 ((i : Int) + 1))] [DV.any]
  else none else none else none else none else none else none else K (.exit 0) 19 [.sl t r.cell 5 r.n, .fn (Fn.func 75) [] [], iv (r.n : Int), iv (i : Int)] [DV.any] := by
 kernel_rfl
theorem shC_ok {st : AE.Stat} (hx : ∀ f, exA f = false → ∀ a σ, st.ext f a σ = none) : ConOk Tryz.prog st 75 (shC atF) := by
 refine con_flat (mg := []) (l := [(27, atC atF)]) (lp := noLp) (n := 0) (glOk st) (fun x h => ?_) Tryz.func75 (by kernel_rfl) (by kernel_rfl) (hx 75 rfl) (fun _ _ _ h => nomatch h) fun args k hk => ?_
 ·simp only [List.mem_cons, List.not_mem_nil, or_false] at h
  subst h
  exact atC_ok hx
 unfold shC at hk
 split at hk <;> first | (cases hk; done) | skip
 rename_i s w a b c
 exact ⟨[.agg [sv s, iv w, iv a, iv b, iv c]], _, .self .nil, v_clo _, hk, (sh_tree atF s w a b c _).trans (isD_of rfl)⟩
/-- The first place, from one on, at which it is so. -/
def idxF (p : Nat → Bool) : Nat → Nat → Int
 | 0, _ => -1
 | m + 1, i => bif p i then (i : Int) else idxF p m (i + 1)
def atB (F : Int → Int → Int → Int) (r : Row) (i : Nat) : Bool := F (r.fo i) (r.ba i) (r.fl i) != 0
def xe (v : Int) : Ex := if v = -1 then .exit 0 else .ret
def xo (v : Int) : List DV := if v = -1 then [.any] else [iv v]
theorem x_cps {v : Int} {k : Ex → List DV → DHeap → Option Unit} (h : (bif holds (v = -1) then k (.exit 0) [.any] [] else k .ret [iv v] []) = some ()) : k (xe v) (xo v) [] = some () := by
 rcases bif_some h with ⟨h1, h2⟩ | ⟨h1, h2⟩
 ·unfold xe xo; rw [if_pos (holds_eq.1 h1), if_pos (holds_eq.1 h1)]; exact h2
 ·have h1 : ¬ v = -1 := fun e => by rw [holds_eq.2 e] at h1; cases h1
  unfold xe xo; rw [if_neg h1, if_neg h1]; exact h2
structure ZI where
 t : Bool
 r : Row
 i : Nat
noncomputable def ixI (F : Int → Int → Int → Int) : LInv ZI where
 pre x := x.i ≤ x.r.n ∧ x.r.n ≤ 9000000
 m := 0
 n := 19
 ps := [0, 1, 7, 8]
 sd x := [.sl x.t x.r.cell 5 x.r.n, badFn, iv x.r.n, iv x.i]
 sh _ := []
 meas x := x.r.n - x.i
 e x := xe (idxF (atB F x.r) (x.r.n - x.i) x.i)
 qs := [4]
 od x := xo (idxF (atB F x.r) (x.r.n - x.i) x.i)
 oh _ := []
 guess ds _ := match ds with
  | [.sl t g 5 n, _, _, _] => some ⟨t, rowOf g n, 0⟩
  | _ => none
 cps x k := bif holds (idxF (atB F x.r) (x.r.n - x.i) x.i = -1) then k (.exit 0) [.any] [] else k .ret [iv (idxF (atB F x.r) (x.r.n - x.i) x.i)] []
theorem badFn_clo : Clo badFn := fun C μ μ' x hx => by
 cases hx with
 | fn _ _ _ u v h1 h2 h3 h4 => exact .fn _ _ _ u v h1 h2 (fun i d x' hd => by simp at hd) fun i d x' hd => by simp at hd
theorem ix_ls {st : AE.Stat} (hx : ∀ f, exA f = false → ∀ a σ, st.ext f a σ = none) : LoopS Tryz.prog st gl0 (.loop (loopAt Tryz.f102 26)) (ixI atF).g := by
 refine (ixI atF).ok (E := env [(75, shC atF)] noLp 0) (p := 500) (tblD_env (l := [(75, shC atF)]) fun x h => ?_) (glOk st).1 (fun _ _ _ h => nomatch h) (fun x k h => x_cps h) fun x hx => ?_
 ·simp only [List.mem_cons, List.not_mem_nil, or_false] at h
  subst h
  exact shC_ok hx
 obtain ⟨t, r, i⟩ := x
 obtain ⟨hi, hn⟩ : i ≤ r.n ∧ r.n ≤ 9000000 := hx
 have ea : (fun e τ σ => (ixI atF).ask ⟨t, r, i⟩ e τ.length (pick [0, 1, 7, 8] τ) (pick [4] τ) σ : KD Unit) = fun e τ _ => (ixI atF).ask ⟨t, r, i⟩ e τ.length (pick [0, 1, 7, 8] τ) (pick [4] τ) [] := by
  funext e τ σ
  exact ask_any rfl (fun _ => rfl) fun _ => rfl
 refine (congrArg (execD Tryz.prog (env [(75, shC atF)] noLp 0) (loopAt Tryz.f102 26) 500 (temps 19 [0, 1, 7, 8] [.sl t r.cell 5 r.n, badFn, iv r.n, iv i]) []) ea).trans ?_
 refine (ix_loop atF t r i fun e n ds es => (ixI atF).ask ⟨t, r, i⟩ e n ds es []).trans ?_
 simp only [Int.toNat_natCast, Nat.add_zero]
 refine dS (fun hlt => ?_) fun hge => ?_
 ·have hlt : i < r.n := by omega
  have hW : IntKind.i64.wrap ((i : Int) + 1) = ((i + 1 : Nat) : Int) := by rw [W_in (by omega) (by omega)]; omega
  have e1 : r.n - i = (r.n - (i + 1)) + 1 := by omega
  have hq : idxF (atB atF r) (r.n - i) i = bif atB atF r i then (i : Int) else idxF (atB atF r) (r.n - (i + 1)) (i + 1) := by rw [e1, idxF]
  refine dT (by omega) (dT hlt (dT hlt (dT hlt (dT hlt (dT hlt (cS (fun h1 => ?_) fun h1 => ?_))))))
  ·have h1 : atB atF r i = true := h1
   rw [h1, cond_true] at hq
   have hne : ¬ (i : Int) = -1 := by omega
   refine LInv.ask_of ⟨rfl, ?_, [], ?_⟩
   ·simp only [ixI]; rw [hq]; exact (if_neg hne).symm
   ·simp only [ixI]; rw [hq]; show WkP 0 [] _ _ (xo (i : Int)) _; rw [show xo (i : Int) = [iv i] from if_neg hne]; exact wk0 (.cons (.v _) .nil) rfl
  ·have h1 : atB atF r i = false := h1
   rw [h1, cond_false] at hq
   rw [hW]
   exact LInv.ask_of ⟨rfl, ⟨t, r, i + 1⟩, ⟨by simp only [ixI, hq], by simp only [ixI, hq], rfl, hlt, hn⟩, by simp only [ixI]; omega, [], wk0 (.cons (.sl _ _ _ _) (.cons (.of_clo badFn_clo) (.cons (.v _) (.cons (.v _) .nil)))) rfl⟩
 ·have e1 : r.n - i = 0 := by omega
  refine LInv.ask_of ⟨rfl, ?_, [], ?_⟩
  ·simp only [ixI, e1]; rfl
  ·simp only [ixI, e1]; exact wk0 (.cons (.any _) .nil) rfl
theorem ixf_tree (F : Int → Int → Int → Int) (t : Bool) (r : Row) (k : DV → Option Unit) : bodyD Tryz.prog (env [(75, shC F)] (lpOf [(26, (ixI F).g)]) 0) Tryz.f102 [.sl t r.cell 5 r.n, badFn] [] (fun d _ => k d) =
  bif holds ((Nat.le 0 (Row.n (rowOf r.cell r.n)) ∧ Nat.le (Row.n (rowOf r.cell r.n)) 9000000) ∧ ∃ ids, WkP (LInv.m (ixI F)) ids [.sl t r.cell 5 r.n, .fn (Fn.func 75) [] [], iv (r.n : Int), iv 0] [] [.sl t (Row.cell (rowOf r.cell r.n)) 5 (Row.n (rowOf r.cell r.n)), .fn (Fn.func 75) [] [], iv (↑(Row.n (rowOf r.cell r.n)) : Int), iv 0] (LInv.sh (ixI F) { t := t, r := rowOf r.cell r.n, i := 0 }))
  then bif holds (idxF (atB F (rowOf r.cell r.n)) (Row.n (rowOf r.cell r.n) - 0) 0 = (-1 : Int)) then k (iv (-1 : Int)) else k (iv (idxF (atB F (rowOf r.cell r.n)) (Row.n (rowOf r.cell r.n) - 0) 0))
  else none := by
 kernel_rfl
noncomputable def ixC (F : Row → Int) : ConF := fun args k => match args with
 | [.sl _ g 5 n, .fn (.func 75) [] []] => bif holds (cellsOk g n) then k (fun _ => (iv (F ⟨n, fun j => strD (g j 0), fun j => numD (g j 1), fun j => numD (g j 2), fun j => numD (g j 3), fun j => numD (g j 4)⟩), [])) else none
 | _ => none
def badAt (r : Row) : Int := idxF (atB atF r) r.n 0
theorem ixC_ok {st : AE.Stat} (hx : ∀ f, exA f = false → ∀ a σ, st.ext f a σ = none) : ConOk Tryz.prog st 102 (ixC badAt) := by
 refine con_flat (mg := []) (l := [(75, shC atF)]) (lp := lpOf [(26, (ixI atF).g)]) (n := 0) (glOk st) (fun x h => ?_) Tryz.func102 (by kernel_rfl) (by kernel_rfl) (hx 102 rfl) (lp_one (by kernel_rfl) (ix_ls hx)) fun args k hk => ?_
 ·simp only [List.mem_cons, List.not_mem_nil, or_false] at h
  subst h
  exact shC_ok hx
 unfold ixC at hk
 split at hk <;> first | (cases hk; done) | skip
 rename_i t g n
 obtain ⟨hb, hk⟩ := bif_none hk
 have hb := holds_eq.1 hb
 refine ⟨[.sl t (rowOf g n).cell 5 n, badFn], _, .cons (hb.cv t) (.self .nil), v_clo _, hk, (ixf_tree atF t (rowOf g n) _).trans (hT ⟨⟨Nat.zero_le _, hb.1⟩, [], wk0 (.cons (.sl _ _ _ _) (.cons (.of_clo badFn_clo) (.cons (.v _) (.cons (.v _) .nil)))) rfl⟩ ?_)⟩
 by_cases hq : idxF (atB atF (rowOf g n)) n 0 = -1
 ·exact hT hq (isD_of (by show _ = iv (idxF (atB atF (rowOf g n)) n 0); rw [hq]))
 ·exact hF hq (isD_of rfl)
theorem cn_tree (F : Row → Int) (t : Bool) (r : Row) (k : DV → Option Unit) : bodyD Tryz.prog (env [(102, ixC F)] noLp 0) Tryz.f74 [.sl t r.cell 5 r.n, badFn] [] (fun d _ => k d) =
  bif holds (Nat.le r.n 9000000 ∧ ∀ (i : Nat), i < r.n → sv (r.tx i) = sv (strD (sv (r.tx i))) ∧ Nat.le (ByteArray.size (strD (sv (r.tx i)))) 9000000 ∧ iv (r.wd i) = iv (numD (iv (r.wd i))) ∧ iv (r.fo i) = iv (numD (iv (r.fo i))) ∧ iv (r.ba i) = iv (numD (iv (r.ba i))) ∧ iv (r.fl i) = iv (numD (iv (r.fl i))))
  then k (bv (decide (F { n := r.n, tx := fun j => strD (sv (r.tx j)), wd := fun j => numD (iv (r.wd j)), fo := fun j => numD (iv (r.fo j)), ba := fun j => numD (iv (r.ba j)), fl := fun j => numD (iv (r.fl j)) } ≥ 0)))
  else none := by
 kernel_rfl
noncomputable def cnC (F : Row → Bool) : ConF := fun args k => match args with
 | [.sl _ g 5 n, .fn (.func 75) [] []] => bif holds (cellsOk g n) then k (fun _ => (bv (F ⟨n, fun j => strD (g j 0), fun j => numD (g j 1), fun j => numD (g j 2), fun j => numD (g j 3), fun j => numD (g j 4)⟩), [])) else none
 | _ => none
/-- Whether a cell has a wrong rendition. -/
def hasBad (r : Row) : Bool := decide (badAt r ≥ 0)
theorem cnC_ok {st : AE.Stat} (hx : ∀ f, exA f = false → ∀ a σ, st.ext f a σ = none) : ConOk Tryz.prog st 74 (cnC hasBad) := by
 refine con_flat (mg := []) (l := [(102, ixC badAt)]) (lp := noLp) (n := 0) (glOk st) (fun x h => ?_) Tryz.func74 (by kernel_rfl) (by kernel_rfl) (hx 74 rfl) (fun _ _ _ h => nomatch h) fun args k hk => ?_
 ·simp only [List.mem_cons, List.not_mem_nil, or_false] at h
  subst h
  exact ixC_ok hx
 unfold cnC at hk
 split at hk <;> first | (cases hk; done) | skip
 rename_i t g n
 obtain ⟨hb, hk⟩ := bif_none hk
 have hb := holds_eq.1 hb
 exact ⟨[.sl t (rowOf g n).cell 5 n, badFn], _, .cons (hb.cv t) (.self .nil), v_clo _, hk, (cn_tree badAt t (rowOf g n) _).trans (hT (Row.ok hb.row) (isD_of rfl))⟩
end Go.Proofs.YtfdldnomelnbgaaGreatDoor

namespace Go.Proofs.YtfdldnomelnbgaaGreatDoor
open Go Go.AE Go.DE Go.RowKit

theorem so_loop (F : Row → Int) (B : Row → Bool) (w h : Int) (t : Bool) (T : Nat → Bool) (R : Nat → Row) (n i : Nat) (K : Ex → Nat → List DV → List DV → DHeap → Option Unit) : execD Tryz.prog (env [(32, rcC F), (74, cnC B)] noLp 0) (loopAt Tryz.f41 122) 500 (temps 71 [3, 50, 51, 52] [.po 1 0 0, .sl t (rowsD T R) 1 n, iv n, iv i]) [none, some ⟨3, .lst [[iv w, iv h, .any]]⟩, none] (fun e τ σ => K e τ.length (pick [3, 50, 51, 52] τ) (pick [2] τ) σ) =
  bif decide ((i : Int) < (n : Int)) then bif decide ((i : Int) < (n : Int)) then bif decide (tN i < n) then bif (↑(Row.n (R (tN i))) : Int) != w then K .ret 71 [.po 1 0 0, .sl t (fun a a_1 => DV.sl (T a) (Row.cell (R a)) 5 (Row.n (R a))) 1 n, iv (n : Int), iv (i : Int)] [bv false] [none, some ⟨3, .lst [[iv w, iv h, DV.any]]⟩, none]
  else bif holds (Nat.le (Row.n (R (tN i))) 9000000 ∧ ∀ (i_1 : Nat), i_1 < Row.n (R (tN i)) → sv (Row.tx (R (tN i)) i_1) = sv (strD (sv (Row.tx (R (tN i)) i_1))) ∧ Nat.le (ByteArray.size (strD (sv (Row.tx (R (tN i)) i_1)))) 9000000 ∧ iv (Row.wd (R (tN i)) i_1) = iv (numD (iv (Row.wd (R (tN i)) i_1))) ∧ iv (Row.fo (R (tN i)) i_1) = iv (numD (iv (Row.fo (R (tN i)) i_1))) ∧ iv (Row.ba (R (tN i)) i_1) = iv (numD (iv (Row.ba (R (tN i)) i_1))) ∧ iv (Row.fl (R (tN i)) i_1) = iv (numD (iv (Row.fl (R (tN i)) i_1))))
  then bif F { n := Row.n (R (tN i)), tx := fun i_1 => strD (sv (Row.tx (R (tN i)) i_1)), wd := fun i_1 => numD (iv (Row.wd (R (tN i)) i_1)), fo := fun i_1 => numD (iv (Row.fo (R (tN i)) i_1)), ba := fun i_1 => numD (iv (Row.ba (R (tN i)) i_1)), fl := fun i_1 => numD (iv (Row.fl (R (tN i)) i_1)) } != 0
  then K .ret 71 [.po 1 0 0, .sl t (fun a a_1 => DV.sl (T a) (Row.cell (R a)) 5 (Row.n (R a))) 1 n, iv (n : Int), iv (i : Int)] [bv false] [none, some ⟨3, .lst [[iv w, iv h, DV.any]]⟩, none] else bif holds (Nat.le (Row.n (R (tN i))) 9000000 ∧ ∀ (i_1 : Nat), i_1 < Row.n (R (tN i)) → sv (Row.tx (R (tN i)) i_1) = sv (strD (sv (Row.tx (R (tN i)) i_1))) ∧ Nat.le (ByteArray.size (strD (sv (Row.tx (R (tN i)) i_1)))) 9000000 ∧ iv (Row.wd (R (tN i)) i_1) = iv (numD (iv (Row.wd (R (tN i)) i_1))) ∧ iv (Row.fo (R (tN i)) i_1) = iv (numD (iv (Row.fo (R (tN i)) i_1))) ∧ iv (Row.ba (R (tN i)) i_1) = iv (numD (iv (Row.ba (R (tN i)) i_1))) ∧ iv (Row.fl (R (tN i)) i_1) = iv (numD (iv (Row.fl (R (tN i)) i_1))))
  then bif B { n := Row.n (R (tN i)), tx := fun j => strD (sv (Row.tx (R (tN i)) j)), wd := fun j => numD (iv (Row.wd (R (tN i)) j)), fo := fun j => numD (iv (Row.fo (R (tN i)) j)), ba := fun j => numD (iv (Row.ba (R (tN i)) j)), fl := fun j => numD (iv (Row.fl (R (tN i)) j)) }
  then K .ret 71 [.po 1 0 0, .sl t (fun a a_1 => DV.sl (T a) (Row.cell (R a)) 5 (Row.n (R a))) 1 n, iv (n : Int), iv (i : Int)] [bv false] [none, some ⟨3, .lst [[iv w, iv h, DV.any]]⟩, none] else K .normal 71 [.po 1 0 0, .sl t (fun a a_1 => DV.sl (T a) (Row.cell (R a)) 5 (Row.n (R a))) 1 n, iv (n : Int), iv (IntKind.wrap .i64 ((i : Int) + 1))] [DV.any] [none, some ⟨3, .lst [[iv w, iv h, DV.any]]⟩, none]
  else none else none else none else none else K (.exit 0) 71 [.po 1 0 0, .sl t (fun a a_1 => DV.sl (T a) (Row.cell (R a)) 5 (Row.n (R a))) 1 n, iv (n : Int), iv (i : Int)] [DV.any] [none, some ⟨3, .lst [[iv w, iv h, DV.any]]⟩, none] := by
 kernel_rfl
/-- Whether a row is one of a proper view. -/
def rowSo (w : Int) (r : Row) : Bool := bif (r.n : Int) != w then false else bif rowF r != 0 then false else bif hasBad r then false else true
structure ZS where
 w : Int
 h : Int
 t : Bool
 T : Nat → Bool
 R : Nat → Row
 n : Nat
 i : Nat
noncomputable def soI : LInv ZS where
 pre x := x.i ≤ x.n ∧ rowsOk x.R x.n
 m := 3
 n := 71
 ps := [3, 50, 51, 52]
 sd x := [.po 1 0 0, .sl x.t (rowsD x.T x.R) 1 x.n, iv x.n, iv x.i]
 sh x := [none, some ⟨3, .lst [[iv x.w, iv x.h, .any]]⟩, none]
 meas x := x.n - x.i
 e x := aE (allF (fun i => rowSo x.w (x.R i)) (x.n - x.i) x.i)
 qs := [2]
 od x := aO (allF (fun i => rowSo x.w (x.R i)) (x.n - x.i) x.i)
 oh _ := [none, none, none]
 guess ds σ := match ds, σ with
  | [_, .sl t g 1 n, _, _], [_, some ⟨_, c⟩, _] => some ⟨numD (c.get 0 0), numD (c.get 0 1), t, fun i => slT (g i 0), fun i => rowD (g i 0), n, 0⟩
  | _, _ => none
 cps x k := bif holds (allF (fun i => rowSo x.w (x.R i)) (x.n - x.i) x.i = true) then k (.exit 0) [.any] [none, none, none] else k .ret [bv false] [none, none, none]
/-- The middle one of three blocks is kept. -/
theorem wkM {a b : Option DBlk} {c : DC} {w h : Int} {ds ds2 : List DV} (tm : SubL (ren 3 []) ds2 ds) (hn : 1 ≤ c.n) (h0 : c.get 0 0 = iv w) (h1 : c.get 0 1 = iv h) :
  WkP 3 [] ds [a, some ⟨3, c⟩, b] ds2 [none, some ⟨3, .lst [[iv w, iv h, .any]]⟩, none] :=
 ⟨tm, rfl, ⟨⟨1, _, rfl, rfl, rfl, hn, trivial, fun i f hi hf => by
  obtain rfl : i = 0 := by
   have : i < 1 := hi
   omega
  have hf : f < 3 := hf
  match f with
  | 0 => show Sub _ (iv w) (c.get 0 0); rw [h0]; exact .v _
  | 1 => show Sub _ (iv h) (c.get 0 1); rw [h1]; exact .v _
  | 2 => exact .any _
  | f + 3 => omega⟩, trivial⟩, (by decide : ([some 1] : List (Option Nat)).Nodup)⟩
theorem wkX {a b c : Option DBlk} {ds ds2 : List DV} (tm : SubL (ren 3 []) ds2 ds) : WkP 3 [] ds [a, b, c] ds2 [none, none, none] := ⟨tm, rfl, trivial, by decide⟩
theorem so_ls {st : AE.Stat} (hx : ∀ f, exA f = false → ∀ a σ, st.ext f a σ = none) (hv : VdOk st) : LoopS Tryz.prog st gl0 (.loop (loopAt Tryz.f41 122)) soI.g := by
 refine soI.ok (E := env [(32, rcC rowF), (74, cnC hasBad)] noLp 0) (p := 500) (tblD_env (l := [(32, rcC rowF), (74, cnC hasBad)]) fun x h => ?_) (glOk st).1 (fun _ _ _ h => nomatch h) (fun x k h => ?_) fun x hx => ?_
 ·simp only [List.mem_cons, List.not_mem_nil, or_false] at h
  rcases h with rfl | rfl
  ·exact rrC_ok hx hv
  ·exact cnC_ok hx
 ·rcases bif_some h with ⟨h1, h2⟩ | ⟨h1, h2⟩
  ·simp only [soI]; rw [holds_eq.1 h1]; exact h2
  ·have h1 : allF (fun i => rowSo x.w (x.R i)) (x.n - x.i) x.i = false := by
    cases hb : allF (fun i => rowSo x.w (x.R i)) (x.n - x.i) x.i with
    | false => rfl
    | true => rw [holds_eq.2 hb] at h1; cases h1
   simp only [soI]; rw [h1]; exact h2
 obtain ⟨w, h, t, T, R, n, i⟩ := x
 obtain ⟨hi, hR⟩ : i ≤ n ∧ rowsOk R n := hx
 have hn := hR.1
 refine (so_loop rowF hasBad w h t T R n i _).trans ?_
 simp only [Int.toNat_natCast, Nat.add_zero]
 refine dS (fun hlt => ?_) fun hge => ?_
 ·have hlt : i < n := by omega
  have hW : IntKind.i64.wrap ((i : Int) + 1) = ((i + 1 : Nat) : Int) := by rw [W_in (by omega) (by omega)]; omega
  have e1 : n - i = (n - (i + 1)) + 1 := by omega
  have hq : allF (fun i => rowSo w (R i)) (n - i) i = bif rowSo w (R i) then allF (fun i => rowSo w (R i)) (n - (i + 1)) (i + 1) else false := by rw [e1, allF]
  have stop : rowSo w (R i) = false → soI.ask ⟨w, h, t, T, R, n, i⟩ .ret 71 [.po 1 0 0, .sl t (rowsD T R) 1 n, iv n, iv i] [bv false] [none, some ⟨3, .lst [[iv w, iv h, .any]]⟩, none] = some () := fun h1 => by
   rw [h1, cond_false] at hq
   refine LInv.ask_of ⟨rfl, ?_, [], ?_⟩
   ·simp only [soI]; rw [hq]; rfl
   ·simp only [soI]; rw [hq]; exact wkX (.cons (.v _) .nil)
  refine dT (by omega) (dT hlt (cS (fun h1 => stop ?_) fun h1 => hT (Row.ok (hR.2 i hlt)) (cS (fun h2 => stop ?_) fun h2 => hT (Row.ok (hR.2 i hlt)) (cS (fun h3 => stop ?_) fun h3 => ?_))))
  ·unfold rowSo; rw [h1]; rfl
  ·have h2 : (rowF (R i) != 0) = true := h2
   unfold rowSo; rw [h1, h2]; rfl
  ·have h2 : (rowF (R i) != 0) = false := h2
   have h3 : hasBad (R i) = true := h3
   unfold rowSo; rw [h1, h2, h3]; rfl
  ·have h2 : (rowF (R i) != 0) = false := h2
   have h3 : hasBad (R i) = false := h3
   have hso : rowSo w (R i) = true := by unfold rowSo; rw [h1, h2, h3]; rfl
   rw [hso, cond_true] at hq
   rw [hW]
   exact LInv.ask_of ⟨rfl, ⟨w, h, t, T, R, n, i + 1⟩, ⟨by simp only [soI, hq], by simp only [soI, hq], rfl, hlt, hR⟩, by simp only [soI]; omega, [], wkM (.cons (.po rfl) (.cons (.sl _ _ _ _) (.cons (.v _) (.cons (.v _) .nil)))) (Nat.le_refl _) rfl rfl⟩
 ·have e1 : n - i = 0 := by omega
  refine LInv.ask_of ⟨rfl, ?_, [], ?_⟩
  ·simp only [soI, e1]; rfl
  ·simp only [soI, e1]; exact wkX (.cons (.any _) .nil)
noncomputable abbrev vsC : ConF := inl2 Tryz.prog (env [] noLp 0) Tryz.f73
theorem vsC_ok {st : AE.Stat} (hx : ∀ f, exA f = false → ∀ a σ, st.ext f a σ = none) : ConOk Tryz.prog st 73 vsC := inl2_ok Tryz.func73 (by kernel_rfl) (by kernel_rfl) (hx 73 rfl) (glOk st) (tblD_env (l := []) fun _ h => nomatch h) (fun _ _ _ h => nomatch h)
theorem sw_tree (x : Tm) (k : DV → Option Unit) : bodyD Tryz.prog (env [(73, vsC)] (lpOf [(122, soI.g)]) 0) Tryz.f41 [.agg x.cells] [] (fun d _ => k d) =
  bif decide (x.I 0 ≥ 1) then bif decide (x.I 0 ≤ 132) then bif decide (x.I 1 ≥ 1) then bif !decide (x.I 1 ≤ 60) then k (bv false) else bif (x.gn : Int) != x.I 1 then k (bv false) else bif decide (x.I 6 < 0)
  then k (bv false) else bif decide (x.I 6 ≥ x.I 1) then k (bv false) else bif decide (x.I 7 < 0) then k (bv false) else bif decide (x.I 7 ≥ x.I 0) then k (bv false) else bif holds ((Nat.le 0 x.gn ∧ Nat.le x.gn 9000000 ∧ ∀ (i : Nat), i < x.gn → Nat.le (Row.n ((fun i => rowD (.sl (x.gT i) (Row.cell (x.gR i)) 5 (Row.n (x.gR i)))) i)) 9000000 ∧ ∀ (i_1 : Nat), i_1 < Row.n ((fun i => rowD (.sl (x.gT i) (Row.cell (x.gR i)) 5 (Row.n (x.gR i)))) i) → Nat.le (ByteArray.size (Row.tx ((fun i => rowD (.sl (x.gT i) (Row.cell (x.gR i)) 5 (Row.n (x.gR i)))) i) i_1)) 9000000) ∧ ∃ ids, WkP 3 ids [.po 1 0 0, .sl false (fun a a_1 => DV.sl (x.gT a) (Row.cell (x.gR a)) 5 (Row.n (x.gR a))) 1 x.gn, iv (x.gn : Int), iv 0] [some ⟨42, .lst [x.cells]⟩, some ⟨3, .upd (.upd (.upd (.lst [[iv 0, iv 0, DV.v (Value.slice none 0 0)]]) 0 0 (iv (x.I 0))) 0 1 (iv (x.I 1))) 0 2 (.sl false (fun a a_1 => DV.sl (x.gT a) (Row.cell (x.gR a)) 5 (Row.n (x.gR a))) 1 x.gn)⟩, some ⟨3, .upd (.upd (.upd (.lst [[iv 0, iv 0, bv false]]) 0 0 (iv (x.I 6))) 0 1 (iv (x.I 7))) 0 2 (bv (x.B 8))⟩] [.po 1 0 0, .sl false (fun a a_1 => DV.sl ((fun i => slT (.sl (x.gT i) (Row.cell (x.gR i)) 5 (Row.n (x.gR i)))) a) (Row.cell ((fun i => rowD (.sl (x.gT i) (Row.cell (x.gR i)) 5 (Row.n (x.gR i)))) a)) 5 (Row.n ((fun i => rowD (.sl (x.gT i) (Row.cell (x.gR i)) 5 (Row.n (x.gR i)))) a))) 1 x.gn, iv (x.gn : Int), iv 0] [none, some ⟨3, .lst [[iv (numD (iv (x.I 0))), iv (numD (iv (x.I 1))), DV.any]]⟩, none])
  then bif holds (allF (fun i => rowSo (numD (iv (x.I 0))) ((fun i => rowD (.sl (x.gT i) (Row.cell (x.gR i)) 5 (Row.n (x.gR i)))) i)) (x.gn - 0) 0 = true) then k (bv true) else k (bv false) else none
  else k (bv false) else k (bv false) else k (bv false) := by
 kernel_rfl
/-- Whether a view can be shown of a terminal. -/
def showF (x : Tm) : Bool :=

 bif decide (x.I 0 ≥ 1) then (bif decide (x.I 0 ≤ 132) then (bif decide (x.I 1 ≥ 1) then (bif !decide (x.I 1 ≤ 60) then false else bif (x.gn : Int) != x.I 1 then false else
  bif decide (x.I 6 < 0) then false else bif decide (x.I 6 ≥ x.I 1) then false else bif decide (x.I 7 < 0) then false else bif decide (x.I 7 ≥ x.I 0) then false else
  allF (fun i => rowSo (x.I 0) (x.gR i)) x.gn 0) else false) else false) else false
noncomputable def swC (Q : List DV → Prop) (F : List DV → Bool) : ConF := fun args k => match args with
 | [.agg l] => bif holds (Q l) then k (fun _ => (bv (F l), [])) else none
 | _ => none
/-- Cells of a terminal whose rows are small. -/
def tmOk (l : List DV) : Prop := l = (tmOf l).cells ∧ (tmOf l).ok
def showL (l : List DV) : Bool := showF (tmOf l)
theorem sw_true (x : Tm) (hok : x.ok) : bodyD Tryz.prog (env [(73, vsC)] (lpOf [(122, soI.g)]) 0) Tryz.f41 [.agg x.cells] [] (fun d _ => isD (bv (showF x)) d) = some () := by
 refine (sw_tree x _).trans ?_
 unfold showF
 refine cS (fun h1 => cS (fun h2 => cS (fun h3 => cS (fun h4 => isD_of ?_) fun h4 => cS (fun h5 => isD_of ?_) fun h5 => cS (fun h6 => isD_of ?_) fun h6 => cS (fun h7 => isD_of ?_) fun h7 => cS (fun h8 => isD_of ?_) fun h8 => cS (fun h9 => isD_of ?_) fun h9 =>
  hT ⟨⟨Nat.zero_le _, hok.1⟩, [], wkM (.cons (.po rfl) (.cons (.sl _ _ _ _) (.cons (.v _) (.cons (.v _) .nil)))) (Nat.le_refl _) rfl rfl⟩ ?_) fun h3 => isD_of ?_) fun h2 => isD_of ?_) fun h1 => isD_of ?_
 ·rw [h1, h2, h3, h4]; rfl
 ·rw [h1, h2, h3, h4, h5]; rfl
 ·rw [h1, h2, h3, h4, h5, h6]; rfl
 ·rw [h1, h2, h3, h4, h5, h6, h7]; rfl
 ·rw [h1, h2, h3, h4, h5, h6, h7, h8]; rfl
 ·rw [h1, h2, h3, h4, h5, h6, h7, h8, h9]; rfl
 ·rw [h1, h2, h3, h4, h5, h6, h7, h8, h9]
  by_cases hq : allF (fun i => rowSo (x.I 0) (x.gR i)) x.gn 0 = true
  ·exact hT hq (isD_of (by rw [hq]; rfl))
  ·exact hF hq (isD_of (by rw [Bool.eq_false_iff.2 hq]; rfl))
 ·rw [h1, h2, h3]; rfl
 ·rw [h1, h2]; rfl
 ·rw [h1]; rfl
theorem swC_ok {st : AE.Stat} (hx : ∀ f, exA f = false → ∀ a σ, st.ext f a σ = none) (hv : VdOk st) : ConOk Tryz.prog st 41 (swC tmOk showL) := by
 refine con_flat (mg := []) (l := [(73, vsC)]) (lp := lpOf [(122, soI.g)]) (n := 0) (glOk st) (fun x h => ?_) Tryz.func41 (by kernel_rfl) (by kernel_rfl) (hx 41 rfl) (lp_one (by kernel_rfl) (so_ls hx hv)) fun args k hk => ?_
 ·simp only [List.mem_cons, List.not_mem_nil, or_false] at h
  subst h
  exact vsC_ok hx
 unfold swC at hk
 split at hk <;> first | (cases hk; done) | skip
 rename_i l
 obtain ⟨hb, hk⟩ := bif_none hk
 obtain ⟨h1, h2⟩ := holds_eq.1 hb
 exact ⟨[.agg (tmOf l).cells], _, .cons (Cv.of (by rw [← h1])) .nil, v_clo _, hk, sw_true (tmOf l) h2⟩
end Go.Proofs.YtfdldnomelnbgaaGreatDoor
