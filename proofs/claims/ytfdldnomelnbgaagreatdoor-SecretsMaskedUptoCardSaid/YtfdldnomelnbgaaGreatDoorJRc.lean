/-
 The contract of the program's check of a row of cells.
 Conditions: none beyond those of the contracts.

 The contracts of copies of rows and of the mask over rows.
 Conditions: none beyond those of the contracts.
-/
import Derived.Test.YtfdldnomelnbgaaGreatDoorJCw
namespace Go.Proofs.YtfdldnomelnbgaaGreatDoor
open Go Go.AE Go.DE Go.RowKit

/-- The check of a row, from a cell on: F checks a cluster, G is its width. -/
def p7s (F G : ByteArray → Int) (r : Row) (i : Nat) (a b : Int) : Int :=
 bif (r.wd i != 1) && (r.wd i != 2) then 12 else bif F (r.tx i) != 0 then 3 else bif G (r.tx i) != r.wd i then 12 else
  bif r.wd i == 1 then a else bif ((i + 1 : Nat) : Int) == (r.n : Int) then 12 else bif r.half i (i + 1) then b else 12
def p7 (F G : ByteArray → Int) (r : Row) : Nat → Nat → Int
 | 0, _ => 0
 | m + 1, i => if i < r.n then p7s F G r i (p7 F G r m (i + 1)) (p7 F G r m (i + 2)) else 0
theorem wkP_any {ids : List Nat} {ds ds2 : List DV} {σ σ' : DHeap} (h : WkP 0 ids ds σ ds2 []) : WkP 0 ids ds σ' ds2 [] := ⟨h.tm, h.len, trivial, h.nd⟩
theorem ask_any {X : Type} {I : LInv X} {x : X} {e : Ex} {n : Nat} {ds es : List DV} {σ : DHeap} (h1 : I.m = 0) (h2 : ∀ y, I.sh y = []) (h3 : ∀ y, I.oh y = []) : I.ask x e n ds es σ = I.ask x e n ds es [] := by
 have key : ∀ σ σ', I.Q x e n ds es σ → I.Q x e n ds es σ' := fun σ σ' hq => by
  obtain ⟨q0, hq⟩ := hq
  refine ⟨q0, ?_⟩
  cases e with
  | normal =>
   obtain ⟨y, a, b, ids, w⟩ := hq
   rw [h1, h2] at w
   exact ⟨y, a, b, ids, by rw [h1, h2]; exact wkP_any w⟩
  | exit j =>
   obtain ⟨a, ids, w⟩ := hq
   rw [h1, h3] at w
   exact ⟨a, ids, by rw [h1, h3]; exact wkP_any w⟩
  | ret =>
   obtain ⟨a, ids, w⟩ := hq
   rw [h1, h3] at w
   exact ⟨a, ids, by rw [h1, h3]; exact wkP_any w⟩
 unfold LInv.ask
 rw [show I.Q x e n ds es σ = I.Q x e n ds es [] from propext ⟨key _ _, key _ _⟩]
noncomputable def rqI (F G : ByteArray → Int) : LInv CX where
 pre x := x.r.sized ∧ x.r.n ≤ x.m + x.i
 m := 0
 n := 64
 ps := [0, 3]
 sd x := [.sl x.t x.r.cell 5 x.r.n, iv x.i]
 sh _ := []
 meas x := x.r.n - x.i
 e x := qe (p7 F G x.r x.m x.i)
 qs := [2]
 od x := qo (p7 F G x.r x.m x.i)
 oh _ := []
 guess ds _ := match ds with
  | [.sl t g 5 n, _] => some ⟨t, rowOf g n, n, 0⟩
  | _ => none
 cps x k := bif holds (p7 F G x.r x.m x.i = 0) then k (.exit 0) [.any] [] else k .ret [iv (p7 F G x.r x.m x.i)] []
theorem rq_loop (F G : ByteArray → Int) (t : Bool) (r : Row) (i : Nat) (K : Ex → Nat → List DV → List DV → Option Unit) : execD Tryz.prog (env [(67, ckC F), (68, cwC G)] noLp 0) (loopAt Tryz.f32 58) 500 (temps 64 [0, 3] [.sl t r.cell 5 r.n, iv i]) [] (fun e τ _ => K e τ.length (pick [0, 3] τ) (pick [2] τ)) =
  bif decide ((i : Int) < (r.n : Int)) then bif decide ((i : Int) < (r.n : Int)) then bif decide (tN i < r.n) then bif decide (tN i < r.n) then bif decide (tN i < r.n) then bif decide (tN i < r.n) then
  bif decide (tN i < r.n) then bif r.wd (tN i) != 1 then bif r.wd (tN i) != 2 then K .ret 64 [.sl t r.cell 5 r.n, iv (i : Int)] [iv 12] else bif decide (ByteArray.size (r.tx (tN i)) ≤ 9000000) then bif F (r.tx (tN i)) != 0
  then K .ret 64 [.sl t r.cell 5 r.n, iv (i : Int)] [iv 3] else bif decide (ByteArray.size (r.tx (tN i)) ≤ 9000000) then bif G (r.tx (tN i)) != r.wd (tN i) then K .ret 64 [.sl t r.cell 5 r.n, iv (i : Int)] [iv 12]
  else bif r.wd (tN i) == 2 then bif decide (IntKind.wrap .i64 ((i : Int) + 1) ≥ (r.n : Int)) then K .ret 64 [.sl t r.cell 5 r.n, iv (i : Int)] [iv 12] else bif decide (0 ≤ IntKind.wrap .i64 ((i : Int) + 1))
  then bif decide (IntKind.wrap .i64 ((i : Int) + 1) < (r.n : Int)) then bif decide (Int.toNat (IntKind.wrap .i64 ((i : Int) + 1)) + 0 < r.n) then bif decide (Int.toNat (IntKind.wrap .i64 ((i : Int) + 1)) + 0 < r.n)
  then bif decide (Int.toNat (IntKind.wrap .i64 ((i : Int) + 1)) + 0 < r.n) then bif decide (Int.toNat (IntKind.wrap .i64 ((i : Int) + 1)) + 0 < r.n) then bif decide (Int.toNat (IntKind.wrap .i64 ((i : Int) + 1)) + 0 < r.n)
  then bif !bif r.tx (Int.toNat (IntKind.wrap .i64 ((i : Int) + 1)) + 0) == { data := #[] } then bif r.wd (Int.toNat (IntKind.wrap .i64 ((i : Int) + 1)) + 0) == 0 then bif bif r.fo (Int.toNat (IntKind.wrap .i64 ((i : Int) + 1)) + 0) == r.fo (tN i)
  then bif r.ba (Int.toNat (IntKind.wrap .i64 ((i : Int) + 1)) + 0) == r.ba (tN i) then bif r.fl (Int.toNat (IntKind.wrap .i64 ((i : Int) + 1)) + 0) == r.fl (tN i) then true else false else false else false
  then true else false else false else false then K .ret 64 [.sl t r.cell 5 r.n, iv (i : Int)] [iv 12] else K .normal 64 [.sl t r.cell 5 r.n, iv (IntKind.wrap .i64 ((i : Int) + r.wd (tN i)))] [DV.any]
  else none else none else none else none else none else none else none else K .normal 64 [.sl t r.cell 5 r.n, iv (IntKind.wrap .i64 ((i : Int) + r.wd (tN i)))] [DV.any] else none else none else bif decide (ByteArray.size (r.tx (tN i)) ≤ 9000000)
  then bif F (r.tx (tN i)) != 0 then K .ret 64 [.sl t r.cell 5 r.n, iv (i : Int)] [iv 3] else bif decide (ByteArray.size (r.tx (tN i)) ≤ 9000000) then bif G (r.tx (tN i)) != r.wd (tN i) then K .ret 64 [.sl t r.cell 5 r.n, iv (i : Int)] [iv 12]
  else bif r.wd (tN i) == 2 then bif decide (IntKind.wrap .i64 ((i : Int) + 1) ≥ (r.n : Int)) then K .ret 64 [.sl t r.cell 5 r.n, iv (i : Int)] [iv 12] else bif decide (0 ≤ IntKind.wrap .i64 ((i : Int) + 1))
  then bif decide (IntKind.wrap .i64 ((i : Int) + 1) < (r.n : Int)) then bif decide (Int.toNat (IntKind.wrap .i64 ((i : Int) + 1)) + 0 < r.n) then bif decide (Int.toNat (IntKind.wrap .i64 ((i : Int) + 1)) + 0 < r.n)
  then bif decide (Int.toNat (IntKind.wrap .i64 ((i : Int) + 1)) + 0 < r.n) then bif decide (Int.toNat (IntKind.wrap .i64 ((i : Int) + 1)) + 0 < r.n) then bif decide (Int.toNat (IntKind.wrap .i64 ((i : Int) + 1)) + 0 < r.n)
  then bif !bif r.tx (Int.toNat (IntKind.wrap .i64 ((i : Int) + 1)) + 0) == { data := #[] } then bif r.wd (Int.toNat (IntKind.wrap .i64 ((i : Int) + 1)) + 0) == 0 then bif bif r.fo (Int.toNat (IntKind.wrap .i64 ((i : Int) + 1)) + 0) == r.fo (tN i)
  then bif r.ba (Int.toNat (IntKind.wrap .i64 ((i : Int) + 1)) + 0) == r.ba (tN i) then bif r.fl (Int.toNat (IntKind.wrap .i64 ((i : Int) + 1)) + 0) == r.fl (tN i) then true else false else false else false
  then true else false else false else false then K .ret 64 [.sl t r.cell 5 r.n, iv (i : Int)] [iv 12] else K .normal 64 [.sl t r.cell 5 r.n, iv (IntKind.wrap .i64 ((i : Int) + r.wd (tN i)))] [DV.any]
  else none else none else none else none else none else none else none else K .normal 64 [.sl t r.cell 5 r.n, iv (IntKind.wrap .i64 ((i : Int) + r.wd (tN i)))] [DV.any] else none else none else none
  else none else none else none else none else none else K (.exit 0) 64 [.sl t r.cell 5 r.n, iv (i : Int)] [DV.any] := by
 kernel_rfl
theorem rq_ls {st : AE.Stat} (hx : ∀ f, exA f = false → ∀ a σ, st.ext f a σ = none) (hv : VdOk st) : LoopS Tryz.prog st gl0 (.loop (loopAt Tryz.f32 58)) (rqI ccF cdF).g := by
 refine (rqI ccF cdF).ok (E := env [(67, ckC ccF), (68, cwC cdF)] noLp 0) (p := 500) (tblD_env (l := [(67, ckC ccF), (68, cwC cdF)]) (fun x h => ?_)) (glOk st).1 (fun _ _ _ h => nomatch h) (fun x k h => q_cps h) fun x hx2 => ?_
 ·simp only [List.mem_cons, List.not_mem_nil, or_false] at h
  rcases h with rfl | rfl
  ·exact ccC_ok hx hv
  ·exact cdC_ok hx hv
 obtain ⟨t, r, m, i⟩ := x
 obtain ⟨hn, hm⟩ : r.sized ∧ r.n ≤ m + i := hx2
 have ea : (fun e τ σ => (rqI ccF cdF).ask ⟨t, r, m, i⟩ e τ.length (pick [0, 3] τ) (pick [2] τ) σ : KD Unit) = fun e τ _ => (rqI ccF cdF).ask ⟨t, r, m, i⟩ e τ.length (pick [0, 3] τ) (pick [2] τ) [] := by
  funext e τ σ
  exact ask_any rfl (fun _ => rfl) fun _ => rfl
 refine (congrArg (execD Tryz.prog (env [(67, ckC ccF), (68, cwC cdF)] noLp 0) (loopAt Tryz.f32 58) 500 (temps 64 [0, 3] [.sl t r.cell 5 r.n, iv i]) []) ea).trans ?_
 refine (rq_loop ccF cdF t r i fun e n ds es => (rqI ccF cdF).ask ⟨t, r, m, i⟩ e n ds es []).trans ?_
 simp only [Int.toNat_natCast, Nat.add_zero]
 have hsz := hn.1
 refine dS (fun hlt => ?_) fun hge => ?_
 ·have hlt : i < r.n := by omega
  have hts := hn.2 i hlt
  obtain ⟨m, rfl⟩ : ∃ m', m = m' + 1 := ⟨m - 1, by omega⟩
  have hW : IntKind.i64.wrap ((i : Int) + 1) = ((i + 1 : Nat) : Int) := by rw [W_in (by omega) (by omega)]; omega
  simp only [hW, Int.toNat_natCast]
  have hq : p7 ccF cdF r (m + 1) i = p7s ccF cdF r i (p7 ccF cdF r m (i + 1)) (p7 ccF cdF r m (i + 2)) := by simp only [p7, if_pos hlt]
  have stop : ∀ (v : Int), v ≠ 0 → p7 ccF cdF r (m + 1) i = v → (rqI ccF cdF).ask ⟨t, r, m + 1, i⟩ .ret 64 [.sl t r.cell 5 r.n, iv i] [iv v] [] = some () := fun v hv hq => by
   refine LInv.ask_of ⟨rfl, ?_, [], ?_⟩
   ·simp only [rqI]; rw [hq]; exact (if_neg hv).symm
   ·simp only [rqI]; rw [hq]; show WkP 0 [] _ _ (qo v) _; rw [show qo v = [iv v] from if_neg hv]; exact wk0 (.cons (.v _) .nil) rfl
  have go : ∀ (j : Nat) (z : Int), z = ((j : Nat) : Int) → i < j → p7 ccF cdF r m j = p7 ccF cdF r (m + 1) i → (rqI ccF cdF).ask ⟨t, r, m + 1, i⟩ .normal 64 [.sl t r.cell 5 r.n, iv z] [.any] [] = some () := fun j z hz hj hq => by
   subst hz
   exact LInv.ask_of ⟨rfl, ⟨t, r, m, j⟩, ⟨by simp only [rqI, hq], by simp only [rqI, hq], rfl, hn, by show r.n ≤ m + j; omega⟩, by simp only [rqI]; omega, [], wk0 (.cons (.sl _ _ _ _) (.cons (.v _) .nil)) rfl⟩
  rw [hq] at stop go
  unfold p7s at stop go
  refine dT (by omega) (dT hlt (dT hlt (dT hlt (dT hlt (dT hlt (cS (fun h1 => cS (fun h2 => stop 12 (by decide) (by rw [h1, h2]; rfl)) fun h2 => ?_) fun h1 => ?_))))))
  ·have hw : r.wd i = 2 := by simpa using h2
   have hh : ((r.wd i != 1) && (r.wd i != 2)) = false := by rw [hw]; rfl
   rw [hh, cond_false] at stop go
   refine dT hts (cS (fun h3 => stop 3 (by decide) (by rw [h3]; rfl)) fun h3 => ?_)
   rw [h3, cond_false] at stop go
   refine dT hts (cS (fun h4 => stop 12 (by decide) (by rw [h4]; rfl)) fun h4 => ?_)
   rw [h4, cond_false] at stop go
   have h5 : (r.wd i == 1) = false := by rw [hw]; rfl
   rw [h5, cond_false] at stop go
   refine cS (fun _ => ?_) fun h6 => by rw [hw] at h6; cases h6
   refine dS (fun h6 => stop 12 (by decide) ?_) fun h6 => ?_
   ·have e : i + 1 = r.n := by omega
    have : (((i + 1 : Nat) : Int) == (r.n : Int)) = true := by rw [e]; exact beq_self_eq_true _
    rw [this]; rfl
   have h7 : (((i + 1 : Nat) : Int) == (r.n : Int)) = false := by rw [beq_eq_false_iff_ne]; omega
   rw [h7, cond_false] at stop go
   refine dT (by omega) (dT (by omega) (dT (by omega) (dT (by omega) (dT (by omega) (dT (by omega) (dT (by omega) (cS (fun h8 => ?_) fun h8 => ?_)))))))
   ·have h8 : (!r.half i (i + 1)) = true := h8
    have h8 : r.half i (i + 1) = false := by simpa using h8
    exact stop 12 (by decide) (by rw [h8]; rfl)
   ·have h8 : (!r.half i (i + 1)) = false := h8
    have h8 : r.half i (i + 1) = true := by simpa using h8
    exact go (i + 2) _ (by rw [hw, W_in (by omega) (by omega)]; omega) (by omega) (by rw [h8, cond_true])
  ·have hw : r.wd i = 1 := by simpa using h1
   have hh : ((r.wd i != 1) && (r.wd i != 2)) = false := by rw [hw]; rfl
   rw [hh, cond_false] at stop go
   refine dT hts (cS (fun h3 => stop 3 (by decide) (by rw [h3]; rfl)) fun h3 => ?_)
   rw [h3, cond_false] at stop go
   refine dT hts (cS (fun h4 => stop 12 (by decide) (by rw [h4]; rfl)) fun h4 => ?_)
   rw [h4, cond_false] at stop go
   have h5 : (r.wd i == 1) = true := by rw [hw]; rfl
   rw [h5, cond_true] at go
   refine cS (fun h6 => by rw [hw] at h6; cases h6) fun _ => ?_
   exact go (i + 1) _ (by rw [hw, W_in (by omega) (by omega)]; omega) (by omega) rfl
 ·have hr : p7 ccF cdF r m i = 0 := by
   cases m with
   | zero => rfl
   | succ m => simp only [p7]; rw [if_neg (by omega)]
  refine LInv.ask_of ⟨rfl, ?_, [], ?_⟩
  ·simp only [rqI]; rw [hr]; rfl
  ·simp only [rqI]; rw [hr]; exact wk0 (.cons (.any _) .nil) rfl
theorem rr_tree (F G : ByteArray → Int) (t : Bool) (r : Row) (k : DV → Option Unit) : bodyD Tryz.prog (env [] (lpOf [(58, (rqI F G).g)]) 0) Tryz.f32 [.sl t r.cell 5 r.n] [] (fun d _ => k d) =
  bif decide ((r.n : Int) < 1) then k (iv 5) else bif decide ((r.n : Int) > 132) then k (iv 5) else bif holds (((Nat.le (Row.n (rowOf r.cell r.n)) 9000000 ∧ ∀ (i : Nat), i < Row.n (rowOf r.cell r.n) → Nat.le (ByteArray.size (Row.tx (rowOf r.cell r.n) i)) 9000000) ∧ Nat.le (Row.n (rowOf r.cell r.n)) (r.n + 0)) ∧ ∃ ids, WkP (LInv.m (rqI F G)) ids [.sl t r.cell 5 r.n, iv 0] [] [.sl t (Row.cell (rowOf r.cell r.n)) 5 (Row.n (rowOf r.cell r.n)), iv 0] (LInv.sh (rqI F G) { t := t, r := rowOf r.cell r.n, m := r.n, i := 0 }))
  then bif holds (p7 F G (rowOf r.cell r.n) r.n 0 = 0) then k (iv 0) else k (iv (p7 F G (rowOf r.cell r.n) r.n 0)) else none := by
 kernel_rfl
/-- The program's check of a row. -/
def rowF (r : Row) : Int := bif decide ((r.n : Int) < 1) then 5 else bif decide ((r.n : Int) > 132) then 5 else p7 ccF cdF r r.n 0
theorem rr_true (t : Bool) (r : Row) (hr : r.sized) : bodyD Tryz.prog (env [] (lpOf [(58, (rqI ccF cdF).g)]) 0) Tryz.f32 [.sl t r.cell 5 r.n] [] (fun d _ => isD (iv (rowF r)) d) = some () := by
 refine (rr_tree ccF cdF t r _).trans ?_
 unfold rowF
 refine dS (fun h => isD_of ?_) fun h => dS (fun h2 => isD_of ?_) fun h2 => hT ⟨⟨hr, Nat.le_refl _⟩, [], wk0 (.cons (.sl _ _ _ _) (.cons (.v _) .nil)) rfl⟩ ?_
 ·rw [decide_eq_true h]; rfl
 ·rw [decide_eq_false h, decide_eq_true h2]; rfl
 ·rw [decide_eq_false h, decide_eq_false h2, cond_false, cond_false]
  by_cases hq : p7 ccF cdF r r.n 0 = 0
  ·exact hT hq (isD_of (by rw [hq]))
  ·exact hF hq (isD_of rfl)
theorem rrC_ok {st : AE.Stat} (hx : ∀ f, exA f = false → ∀ a σ, st.ext f a σ = none) (hv : VdOk st) : ConOk Tryz.prog st 32 (rcC rowF) := by
 refine con_flat (mg := []) (l := []) (lp := lpOf [(58, (rqI ccF cdF).g)]) (n := 0) (glOk st) (fun _ h => nomatch h) Tryz.func32 (by kernel_rfl) (by kernel_rfl) (hx 32 rfl) (lp_one (by kernel_rfl) (rq_ls hx hv)) fun args k hk => ?_
 unfold rcC at hk
 split at hk <;> first | (cases hk; done) | skip
 rename_i t g n
 obtain ⟨hb, hk⟩ := bif_none hk
 have hb := holds_eq.1 hb
 exact ⟨[.sl t (rowOf g n).cell 5 n], _, .cons (hb.cv t) .nil, v_clo _, hk, rr_true t (rowOf g n) hb.row⟩
end Go.Proofs.YtfdldnomelnbgaaGreatDoor

namespace Go.Proofs.YtfdldnomelnbgaaGreatDoor
open Go Go.AE Go.DE Go.RowKit

theorem cl_tree (t : Bool) (r : Row) (K : DV → DHeap → Option Unit) : bodyD Tryz.prog (env [] noLp 0) Tryz.f61 [.sl t r.cell 5 r.n] [] (fun d σ => K d σ) =
  bif decide (0 < r.n) then bif decide ((0 + r.n) * 48 ≤ 140737488355328) then K (.os 1 0 (0 + r.n)) [none, some ⟨5, .app (.pre (.lst []) 0) (.tab r.n r.cell)⟩] else none else none := by
 kernel_rfl
theorem cb_tree (t : Bool) (z : Nat → Bool) (n : Nat) (K : DV → DHeap → Option Unit) : bodyD Tryz.prog (envZ [] noLp 0) Tryz.f24 [.sl t (tabsD z) 1 n] [] (fun d σ => K d σ) =
  bif decide (0 < n) then bif decide ((0 + n) * 1 ≤ 140737488355328) then K (.os 1 0 (0 + n)) [none, some ⟨1, .app (.pre (.lst []) 0) (.tab n fun a a_1 => bv (z a))⟩] else none else none := by
 kernel_rfl
/-- mask is entered with the caller's blocks. -/
noncomputable def mskH : List InE := [⟨23, Tryz.f23, env [] noLp 0⟩]
/-- The function mask, as a datum. -/
def fnD : DV := .fn (.func 23) [] []
theorem mi_loop (o : Option DBlk) (d5 d10 d11 d12 : DV) (q : Row) (i : Nat) (K : Ex → Nat → List DV → List DV → DHeap → Option Unit) : execD Tryz.prog (envH Tryz.prog gl0 mskH [] noLp 0 [] true) (loopAt Tryz.f22 59802) 500 (temps 35 [1, 5, 8, 10, 11, 12, 19, 20] [fnD, d5, .os 1 0 q.n, d10, d11, d12, iv q.n, iv i]) [o, some ⟨5, .tab q.n q.cell⟩] (fun e τ σ => K e τ.length (pick [1, 5, 8, 10, 11, 12, 19, 20] τ) (pick [1, 5, 8, 10, 11, 12] τ) σ) =
  bif decide ((i : Int) < (q.n : Int)) then bif decide ((i : Int) < (q.n : Int)) then bif decide (0 + tN i < q.n) then bif IntKind.wrap .i64 (↑(BitVec.toNat (BitVec.ofInt 64 (q.fl (0 + tN i)) &&& BitVec.ofInt 64 64)) : Int) == 0
  then K .normal 35 [.fn (Fn.func 23) [] [], d5, .os 1 0 q.n, d10, d11, d12, iv (q.n : Int), iv (IntKind.wrap .i64 ((i : Int) + 1))] [.fn (Fn.func 23) [] [], d5, .os 1 0 q.n, d10, d11, d12] [o, some ⟨5, .tab q.n q.cell⟩]
  else bif decide (0 + tN i < q.n) then bif q.wd (0 + tN i) == 1 then bif decide (0 + tN i < DC.n (.tab q.n q.cell)) then K .normal 35 [.fn (Fn.func 23) [] [], d5, .os 1 0 q.n, d10, d11, d12, iv (q.n : Int), iv (IntKind.wrap .i64 ((i : Int) + 1))] [.fn (Fn.func 23) [] [], d5, .os 1 0 q.n, d10, d11, d12] [o, some ⟨5, .upd (.tab q.n q.cell) (0 + tN i) 0 (sv ({ data := #[(42 : UInt8)] }))⟩]
  else none else bif q.wd (0 + tN i) == 2 then bif decide (0 + tN i < DC.n (.tab q.n q.cell)) then K .normal 35 [.fn (Fn.func 23) [] [], d5, .os 1 0 q.n, d10, d11, d12, iv (q.n : Int), iv (IntKind.wrap .i64 ((i : Int) + 1))] [.fn (Fn.func 23) [] [], d5, .os 1 0 q.n, d10, d11, d12] [o, some ⟨5, .upd (.tab q.n q.cell) (0 + tN i) 0 (sv ({ data := #[(239 : UInt8), (188 : UInt8), (138 : UInt8)] }))⟩]
  else none else K .normal 35 [.fn (Fn.func 23) [] [], d5, .os 1 0 q.n, d10, d11, d12, iv (q.n : Int), iv (IntKind.wrap .i64 ((i : Int) + 1))] [.fn (Fn.func 23) [] [], d5, .os 1 0 q.n, d10, d11, d12] [o, some ⟨5, .tab q.n q.cell⟩]
  else none else none else none else K (.exit 2) 35 [.fn (Fn.func 23) [] [], d5, .os 1 0 q.n, d10, d11, d12, iv (q.n : Int), iv (i : Int)] [.fn (Fn.func 23) [] [], d5, .os 1 0 q.n, d10, d11, d12] [o, some ⟨5, .tab q.n q.cell⟩] := by
 kernel_rfl
def starT : ByteArray := ⟨#[42]⟩
def wideT : ByteArray := ⟨#[239, 188, 138]⟩
/-- Whether a cell's text is shown. -/
def shown (x : Int) : Bool := IntKind.i64.wrap (((BitVec.ofInt 64 x &&& BitVec.ofInt 64 64).toNat : Nat) : Int) == 0
/-- The text of a cell behind the mask. -/
def mkT (r : Row) (i : Nat) : ByteArray := bif shown (r.fl i) then r.tx i else bif r.wd i == 1 then starT else bif r.wd i == 2 then wideT else r.tx i
/-- The first i cells masked. -/
def Row.mkd (r : Row) (i : Nat) : Row := { r with tx := fun j => if j < i then mkT r j else r.tx j }
theorem Row.mkd_same {r : Row} {i : Nat} (h : mkT r i = r.tx i) : r.mkd (i + 1) = r.mkd i := by
 unfold Row.mkd
 congr 1
 funext j
 by_cases hj : j < i
 ·rw [if_pos hj, if_pos (by omega)]
 ·by_cases hj2 : j = i
  ·subst hj2; rw [if_pos (by omega), if_neg hj, h]
  ·rw [if_neg hj, if_neg (by omega)]
theorem Row.mkd_upd {r : Row} {i j f : Nat} {w : ByteArray} (h : mkT r i = w) : (DC.upd (.tab r.n (r.mkd i).cell) i 0 (sv w)).get j f = (r.mkd (i + 1)).cell j f := by
 show (if j = i ∧ f = 0 then sv w else (r.mkd i).cell j f) = _
 split
 ·rename_i e
  obtain ⟨rfl, rfl⟩ := e
  show _ = sv (if j < j + 1 then mkT r j else r.tx j)
  rw [if_pos (by omega), h]
 ·rename_i e
  match f with
  | 0 =>
   have e : j ≠ i := fun x => e ⟨x, rfl⟩
   show sv (if j < i then mkT r j else r.tx j) = sv (if j < i + 1 then mkT r j else r.tx j)
   by_cases hj : j < i
   ·rw [if_pos hj, if_pos (by omega)]
   ·rw [if_neg hj, if_neg (by omega)]
  | 1 => rfl
  | 2 => rfl
  | 3 => rfl
  | _ + 4 => rfl
/-- A datum that stays, whatever becomes of the blocks behind the first m. -/
def Keep (m : Nat) (d : DV) : Prop := ∀ ids, Sub (ren m ids) d d
theorem Keep.clo {m : Nat} {d : DV} (h : Clo d) : Keep m d := fun _ => .of_clo h
theorem Keep.os {m j a n : Nat} (h : j < m) : Keep m (.os j a n) := fun _ => .os (if_pos h)
def KeepB (m : Nat) (o : Option DBlk) : Prop := ∀ b, o = some b → b.c.good ∧ ∀ i f, i < b.c.n → f < b.k → Keep m (b.c.get i f)
structure YX where
 o : Option DBlk
 d5 : DV
 d10 : DV
 d11 : DV
 d12 : DV
 r : Row
 i : Nat
structure YX.ok (x : YX) : Prop where
 hi : x.i ≤ x.r.n
 hn : x.r.n ≤ 9000000
 ho : KeepB 2 x.o
 h5 : Keep 2 x.d5
 h10 : Keep 2 x.d10
 h11 : Keep 2 x.d11
 h12 : Keep 2 x.d12
def miI : LInv YX where
 pre := YX.ok
 m := 2
 n := 35
 ps := [1, 5, 8, 10, 11, 12, 19, 20]
 sd x := [fnD, x.d5, .os 1 0 x.r.n, x.d10, x.d11, x.d12, iv x.r.n, iv x.i]
 sh x := [x.o, some ⟨5, .tab x.r.n (x.r.mkd x.i).cell⟩]
 meas x := x.r.n - x.i
 e _ := .exit 2
 qs := [1, 5, 8, 10, 11, 12]
 od x := [fnD, x.d5, .os 1 0 x.r.n, x.d10, x.d11, x.d12]
 oh x := [x.o, some ⟨5, .tab x.r.n (x.r.mkd x.r.n).cell⟩]
 guess ds σ := match ds, σ with
  | [_, d5, .os _ _ n, d10, d11, d12, _, _], [o, some ⟨_, c⟩] => some ⟨o, d5, d10, d11, d12, rowOf c.get n, 0⟩
  | _, _ => none
 cps x k := k (.exit 2) [fnD, x.d5, .os 1 0 x.r.n, x.d10, x.d11, x.d12] [x.o, some ⟨5, .tab x.r.n (x.r.mkd x.r.n).cell⟩]
theorem Row.clo (r : Row) (i f : Nat) : Clo (r.cell i f) := by
 match f with
 | 0 => exact .v _
 | 1 => exact .v _
 | 2 => exact .v _
 | 3 => exact .v _
 | _ + 4 => exact .v _
theorem fnD_clo : Clo fnD := fun C μ μ' x hx => by
 cases hx with
 | fn _ _ _ u v h1 h2 h3 h4 => exact .fn _ _ _ u v h1 h2 (fun i d x' hd => by simp at hd) fun i d x' hd => by simp at hd
/-- Two blocks, kept; the second one by its cells. -/
theorem wkO {o : Option DBlk} {c : DC} {r : Row} {ds ds2 : List DV} (ho : KeepB 2 o) (tm : SubL (ren 2 []) ds2 ds) (hn : r.n ≤ c.n) (hc : ∀ i f, i < r.n → f < 5 → c.get i f = r.cell i f) :
  WkP 2 [] ds [o, some ⟨5, c⟩] ds2 [o, some ⟨5, .tab r.n r.cell⟩] := by
 have b2 : ∃ i b, ren 2 [] 1 = some i ∧ ([o, some ⟨5, c⟩] : DHeap)[i]? = some (some b) ∧ SubC (ren 2 []) ⟨5, .tab r.n r.cell⟩ b :=
  ⟨1, _, rfl, rfl, rfl, hn, trivial, fun i f hi hf => by
   show Sub _ (r.cell i f) (c.get i f)
   rw [hc i f hi hf]
   exact .of_clo (r.clo i f)⟩
 cases o with
 | none => exact ⟨tm, rfl, ⟨b2, trivial⟩, (by decide : ([some 1] : List (Option Nat)).Nodup)⟩
 | some b =>
  obtain ⟨h1, h2⟩ := ho b rfl
  exact ⟨tm, rfl, ⟨⟨0, b, rfl, rfl, rfl, Nat.le_refl _, h1, fun i f hi hf => h2 i f hi hf []⟩, b2, trivial⟩, (by decide : ([some 0, some 1] : List (Option Nat)).Nodup)⟩
theorem mi_ls {st : AE.Stat} (hx : ∀ f, exA f = false → ∀ a σ, st.ext f a σ = none) : LoopSR true Tryz.prog st gl0 (.loop (loopAt Tryz.f22 59802)) miI.g := by
 refine miI.ok (E := envH Tryz.prog gl0 mskH [] noLp 0 [] true) (p := 500) (envH_ok (fun e h => ?_) fun _ h => nomatch h) (glOk st).1 (fun _ _ _ h => nomatch h) (fun x k h => h) fun x hx2 => ?_
 ·simp only [mskH, List.mem_cons, List.not_mem_nil, or_false] at h
  subst h
  exact ⟨Tryz.func23, by kernel_rfl, by kernel_rfl, hx 23 rfl, tblD_env (fun _ h => nomatch h), glOk st, (fun _ _ _ h => nomatch h), rfl⟩
 obtain ⟨o, d5, d10, d11, d12, r, i⟩ := x
 obtain ⟨hi, hn, ho, h5, h10, h11, h12⟩ := hx2
 refine (mi_loop o d5 d10 d11 d12 (r.mkd i) i _).trans ?_
 simp only [Int.toNat_natCast, Nat.zero_add, Nat.add_zero]
 have hi : i ≤ r.n := hi
 have hn : r.n ≤ 9000000 := hn
 have tm : ∀ (z : Int) (z' : Int), z = z' → SubL (ren 2 []) [fnD, d5, .os 1 0 r.n, d10, d11, d12, iv r.n, iv z'] [fnD, d5, .os 1 0 r.n, d10, d11, d12, iv r.n, iv z] := fun z z' e => by
  subst e
  exact .cons (.of_clo fnD_clo) (.cons (h5 _) (.cons (.os rfl) (.cons (h10 _) (.cons (h11 _) (.cons (h12 _) (.cons (.v _) (.cons (.v _) .nil)))))))
 have hl : (r.mkd i).fl i = r.fl i := rfl
 have hw : (r.mkd i).wd i = r.wd i := rfl
 have hnn : (r.mkd i).n = r.n := rfl
 refine dS (fun hlt => ?_) fun hge => ?_
 ·have hlt : i < r.n := by have : (i : Int) < (r.n : Int) := hlt; omega
  have hW : IntKind.i64.wrap ((i : Int) + 1) = ((i + 1 : Nat) : Int) := by rw [W_in (by omega) (by omega)]; omega
  have go : ∀ c : DC, r.n ≤ c.n → (∀ j f, c.get j f = (r.mkd (i + 1)).cell j f) → miI.ask ⟨o, d5, d10, d11, d12, r, i⟩ .normal 35 [fnD, d5, .os 1 0 r.n, d10, d11, d12, iv r.n, iv (IntKind.i64.wrap ((i : Int) + 1))] [fnD, d5, .os 1 0 r.n, d10, d11, d12] [o, some ⟨5, c⟩] = some () := fun c hc1 hc2 =>
   LInv.ask_of ⟨rfl, ⟨o, d5, d10, d11, d12, r, i + 1⟩, ⟨rfl, rfl, rfl, ⟨hlt, hn, ho, h5, h10, h11, h12⟩⟩, by simp only [miI]; omega, [], wkO (r := r.mkd (i + 1)) ho (tm _ _ hW) hc1 fun j f _ _ => hc2 j f⟩
  refine dT (by omega) (dT hlt (cS (fun h1 => ?_) fun h1 => dT hlt (cS (fun h2 => dT hlt ?_) fun h2 => cS (fun h3 => dT hlt ?_) fun h3 => ?_)))
  ·refine go _ (Nat.le_refl _) fun j f => ?_
   rw [Row.mkd_same]; rfl
   have h1 : shown (r.fl i) = true := h1
   unfold mkT; rw [h1]; rfl
  ·refine go (.upd (.tab r.n (r.mkd i).cell) i 0 (sv starT)) (Nat.le_refl _) fun j f => Row.mkd_upd ?_
   have h1 : shown (r.fl i) = false := h1
   have h2 : (r.wd i == 1) = true := h2
   unfold mkT; rw [h1, h2]; rfl
  ·refine go (.upd (.tab r.n (r.mkd i).cell) i 0 (sv wideT)) (Nat.le_refl _) fun j f => Row.mkd_upd ?_
   have h1 : shown (r.fl i) = false := h1
   have h2 : (r.wd i == 1) = false := h2
   have h3 : (r.wd i == 2) = true := h3
   unfold mkT; rw [h1, h2, h3]; rfl
  ·refine go _ (Nat.le_refl _) fun j f => ?_
   rw [Row.mkd_same]; rfl
   have h1 : shown (r.fl i) = false := h1
   have h2 : (r.wd i == 1) = false := h2
   have h3 : (r.wd i == 2) = false := h3
   unfold mkT; rw [h1, h2, h3]; rfl
 ·obtain rfl : i = r.n := by
   have : ¬ (i : Int) < (r.n : Int) := hge
   omega
  exact LInv.ask_of ⟨rfl, rfl, [], wkO (r := r.mkd r.n) ho (.cons (.of_clo fnD_clo) (.cons (h5 _) (.cons (.os rfl) (.cons (h10 _) (.cons (h11 _) (.cons (h12 _) .nil)))))) (Nat.le_refl _) fun _ _ _ _ => rfl⟩
end Go.Proofs.YtfdldnomelnbgaaGreatDoor
