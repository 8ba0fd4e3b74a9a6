/-
  The contracts of the reference's checks of a row of cells and of a grid.
  Conditions: none beyond those of the contracts.
-/
import Derived.Test.YtabchbchopgnfaaGreatDoorJRow
namespace Go.Proofs.YtabchbchopgnfaaGreatDoor
open Go Go.AE Go.DE Go.RowKit

/-- One datum may be read as another. -/
def Cv (a b : DV) : Prop := ∀ C μ v, DR C μ a v → DR C μ b v
theorem Cv.rfl {a : DV} : Cv a a := fun _ _ _ h => h
theorem Cv.of {a b : DV} (h : a = b) : Cv a b := h ▸ Cv.rfl
theorem Cv.sl {t : Bool} {g g' : Nat → Nat → DV} {k n : Nat} (h : ∀ i f, i < n → f < k → Cv (g i f) (g' i f)) : Cv (.sl t g k n) (.sl t g' k n) := fun C μ v hv => by
  rcases hv.sl_inv with ⟨a, cap, w, rfl, hc, hk0, q1, q2⟩ | ⟨rfl, rfl⟩
  · exact .sl t _ k n a cap w hc hk0 q1 fun i f hi hf => h i f hi hf _ _ _ (q2 i f hi hf)
  · exact .slnil t _ k
theorem Cv.agg : ∀ {a b : List DV}, CvL a b → Cv (.agg a) (.agg b) := fun {a b} h C μ v hv => by
  cases hv with
  | agg _ vs h1 h2 =>
    have := h.drl (C := C) (μ := μ) (vs := vs.toList) ⟨by simpa using h1, fun i d x hd hx => h2 i d x hd (by simpa using hx)⟩
    exact .agg _ _ (by simpa using this.1) fun i d x hd hx => this.2 i d x hd (by simpa using hx)
def cellsOk (g : Nat → Nat → DV) (n : Nat) : Prop := n ≤ 9000000 ∧ ∀ i, i < n → g i 0 = sv (strD (g i 0)) ∧ (strD (g i 0)).size ≤ 9000000 ∧ g i 1 = iv (numD (g i 1)) ∧ g i 2 = iv (numD (g i 2)) ∧ g i 3 = iv (numD (g i 3)) ∧ g i 4 = iv (numD (g i 4))
theorem cellsOk.row {g : Nat → Nat → DV} {n : Nat} (h : cellsOk g n) : (rowOf g n).sized := ⟨h.1, fun i hi => (h.2 i hi).2.1⟩
theorem cellsOk.cv {g : Nat → Nat → DV} {n : Nat} (h : cellsOk g n) (t : Bool) : Cv (.sl t g 5 n) (.sl t (rowOf g n).cell 5 n) := Cv.sl fun i f hi hf => by
  obtain ⟨h0, _, h1, h2, h3, h4⟩ := h.2 i hi
  have : f = 0 ∨ f = 1 ∨ f = 2 ∨ f = 3 ∨ f = 4 := by omega
  rcases this with rfl | rfl | rfl | rfl | rfl
  · exact .of h0
  · exact .of h1
  · exact .of h2
  · exact .of h3
  · exact .of h4
theorem Row.ok {r : Row} (h : r.sized) : cellsOk r.cell r.n := ⟨h.1, fun i hi => ⟨rfl, h.2 i hi, rfl, rfl, rfl, rfl⟩⟩
noncomputable def rcC (F : Row → Int) : ConF := fun args k => match args with
  | [.sl _ g 5 n] => bif holds (cellsOk g n) then k (fun _ => (iv (F ⟨n, fun i => strD (g i 0), fun i => numD (g i 1), fun i => numD (g i 2), fun i => numD (g i 3), fun i => numD (g i 4)⟩), [])) else none
  | _ => none
theorem rc_tree (F G : ByteArray → Int) (t : Bool) (r : Row) (k : DV → Option Unit) : bodyD Tryz.prog (env [(58, ckC F), (59, cwC G)] (lpOf [(58, rwI.g)]) 0) Tryz.f28 [.sl t r.cell 5 r.n] [] (fun d _ => k d) =
    bif decide ((↑(Row.n r) : Int) < (1 : Int)) then k (DV.v (Value.int IntKind.i64 (5 : Int))) else bif decide ((↑(Row.n r) : Int) > (132 : Int)) then k (DV.v (Value.int IntKind.i64 (5 : Int))) else bif holds (((Nat.le (Row.n (rowOf (Row.cell r) (Row.n r))) (9000000 : Nat) ∧ ∀ (i : Nat), i < Row.n (rowOf (Row.cell r) (Row.n r)) → Nat.le (ByteArray.size (Row.tx (rowOf (Row.cell r) (Row.n r)) i)) (9000000 : Nat)) ∧ Nat.le (Row.n (rowOf (Row.cell r) (Row.n r))) (Row.n r + (0 : Nat))) ∧ ∃ ids, WkP (0 : Nat) ids [DV.sl t (Row.cell r) (5 : Nat) (Row.n r), DV.v (Value.int IntKind.i64 (0 : Int))] [] [DV.sl t (Row.cell (rowOf (Row.cell r) (Row.n r))) (5 : Nat) (Row.n (rowOf (Row.cell r) (Row.n r))), DV.v (Value.int IntKind.i64 (0 : Int))] (LInv.sh rwI { t := t, r := rowOf (Row.cell r) (Row.n r), m := Row.n r, i := (0 : Nat) }))
    then bif holds (CX.q { t := t, r := rowOf (Row.cell r) (Row.n r), m := Row.n r, i := (0 : Nat) } = (0 : Int)) then k (DV.v (Value.int IntKind.i64 (0 : Int))) else k (DV.v (Value.int IntKind.i64 (CX.q { t := t, r := rowOf (Row.cell r) (Row.n r), m := Row.n r, i := (0 : Nat) })))
    else none := by
  kernel_rfl
/-- The reference's check of a row. -/
def check7 (r : Row) : Int := bif decide ((r.n : Int) < 1) then 5 else bif decide ((r.n : Int) > 132) then 5 else c7 r r.n 0
theorem rc_true (t : Bool) (r : Row) (hr : r.sized) : bodyD Tryz.prog (env [(58, ckC check3), (59, cwC width3)] (lpOf [(58, rwI.g)]) 0) Tryz.f28 [.sl t r.cell 5 r.n] [] (fun d _ => isD (iv (check7 r)) d) = some () := by
  refine (rc_tree check3 width3 t r _).trans ?_
  unfold check7
  refine dS (fun h => isD_of ?_) fun h => dS (fun h2 => isD_of ?_) fun h2 => hT ⟨⟨hr, Nat.le_refl _⟩, [], wk0 (.cons (.sl _ _ _ _) (.cons (.v _) .nil)) rfl⟩ ?_
  · rw [decide_eq_true h]; rfl
  · rw [decide_eq_false h, decide_eq_true h2]; rfl
  · rw [decide_eq_false h, decide_eq_false h2, cond_false, cond_false]
    by_cases hq : c7 r r.n 0 = 0
    · exact hT hq (isD_of (by rw [hq]))
    · exact hF hq (isD_of rfl)
theorem rcC_ok {st : AE.Stat} (hx : ∀ f, f ≠ 5 → f ≠ 22 → ∀ a σ, st.ext f a σ = none) : ConOk Tryz.prog st 28 (rcC check7) := by
  refine con_flat (mg := []) (l := [(58, ckC check3), (59, cwC width3)]) (lp := lpOf [(58, rwI.g)]) (n := 0) (glOk st) (fun x h => ?_) Tryz.func28 (by kernel_rfl) (by kernel_rfl) (hx 28 (by decide) (by decide)) (lp_one (by kernel_rfl) (rw_ls hx)) fun args k hk => ?_
  · simp only [List.mem_cons, List.not_mem_nil, or_false] at h
    rcases h with rfl | rfl
    · exact ckC_ok hx
    · exact cwC_ok hx
  unfold rcC at hk
  split at hk <;> first | (cases hk; done) | skip
  rename_i t g n
  obtain ⟨hb, hk⟩ := bif_none hk
  have hb := holds_eq.1 hb
  exact ⟨[.sl t (rowOf g n).cell 5 n], _, .cons (hb.cv t) .nil, v_clo _, hk, rc_true t (rowOf g n) hb.row⟩
/-- Rows of cells. -/
def rowsD (T : Nat → Bool) (R : Nat → Row) : Nat → Nat → DV := fun i _ => .sl (T i) (R i).cell 5 (R i).n
def g8s (w : Int) (r : Row) (a : Int) : Int := bif (r.n : Int) != w then 12 else bif check7 r != 0 then check7 r else a
def g8 (R : Nat → Row) (w : Int) : Nat → Nat → Int
  | 0, _ => 0
  | m + 1, i => g8s w (R i) (g8 R w m (i + 1))
/-- A block is kept as it is, or forgotten. -/
theorem wkS {k : Nat} {l : List DV} {ds ds2 : List DV} (h : ∀ d ∈ l, Clo d) (tm : SubL (ren 1 []) ds2 ds) : WkP 1 [] ds [some ⟨k, .lst [l]⟩] ds2 [some ⟨k, .lst [l]⟩] :=

  .of (im := [some 0]) tm rfl ⟨⟨0, _, rfl, rfl, ⟨rfl, Nat.le_refl _, trivial, fun i f hi _ => .of_clo (by
    obtain rfl : i = 0 := by
      have : i < 1 := hi
      omega
    show Clo (l.getD f .any)
    rw [List.getD_eq_getElem?_getD]
    cases hl : l[f]? with
    | none => exact .any
    | some d => exact h d (List.mem_of_getElem? hl))⟩⟩, trivial⟩ rfl (by decide)
theorem wkN {b : Option DBlk} {ds ds2 : List DV} (tm : SubL (ren 1 []) ds2 ds) : WkP 1 [] ds [b] ds2 [none] := .of (im := []) tm rfl trivial rfl (by decide)
structure GX where
  w : Int
  h : Int
  t : Bool
  T : Nat → Bool
  R : Nat → Row
  n : Nat
  i : Nat
def GX.q (x : GX) : Int := g8 x.R x.w (x.n - x.i) x.i
def slT : DV → Bool
  | .sl t _ _ _ => t
  | _ => false
def slG : DV → Nat → Nat → DV
  | .sl _ g _ _ => g
  | _ => fun _ _ => .any
def slN : DV → Nat
  | .sl _ _ _ n => n
  | _ => 0
def rowD (d : DV) : Row := rowOf (slG d) (slN d)
noncomputable def gdI : LInv GX where
  pre x := x.n ≤ 9000000 ∧ ∀ i, i < x.n → (x.R i).sized
  m := 1
  n := 42
  ps := [1, 3]
  sd x := [.po 0 0 0, iv x.i]
  sh x := [some ⟨3, .lst [[iv x.w, iv x.h, .sl x.t (rowsD x.T x.R) 1 x.n]]⟩]
  meas x := x.n - x.i
  e x := qe x.q
  qs := [2]
  od x := qo x.q
  oh _ := [none]
  guess ds σ := match ds, σ with
    | [.po 0 0 0, _], [some ⟨3, .lst [[.v (.int _ w), .v (.int _ h), .sl t G 1 n]]⟩] => some ⟨w, h, t, fun i => slT (G i 0), fun i => rowD (G i 0), n, 0⟩
    | _, _ => none
  cps x k := bif holds (x.q = 0) then k (.exit 0) [.any] [none] else k .ret [iv x.q] [none]
theorem gd_loop (F : Row → Int) (w h : Int) (t : Bool) (T : Nat → Bool) (R : Nat → Row) (n i : Nat) (K : Ex → Nat → List DV → List DV → DHeap → Option Unit) : execD Tryz.prog (env [(28, rcC F)] noLp 0) (loopAt Tryz.f23 122) 500 (temps 42 [1, 3] [.po 0 0 0, iv i]) [some ⟨3, .lst [[iv w, iv h, .sl t (rowsD T R) 1 n]]⟩] (fun e τ σ => K e τ.length (pick [1, 3] τ) (pick [2] τ) σ) =
    bif decide ((↑i : Int) < (↑n : Int)) then bif decide ((↑i : Int) < (↑n : Int)) then bif decide (Int.toNat (↑i : Int) + (0 : Nat) < n) then bif (↑(Row.n (R (Int.toNat (↑i : Int) + (0 : Nat)))) : Int) != w
    then K Ex.ret (42 : Nat) [DV.po (0 : Nat) (0 : Nat) (0 : Nat), DV.v (Value.int IntKind.i64 (↑i : Int))] [DV.v (Value.int IntKind.i64 (12 : Int))] [some { k := (3 : Nat), c := DC.lst [[DV.v (Value.int IntKind.i64 w), DV.v (Value.int IntKind.i64 h), DV.sl t (fun a a_1 => DV.sl (T a) (Row.cell (R a)) (5 : Nat) (Row.n (R a))) (1 : Nat) n]] }]
    else bif decide ((↑i : Int) < (↑n : Int)) then bif decide (Int.toNat (↑i : Int) + (0 : Nat) < n) then bif holds (Nat.le (Row.n (R (Int.toNat (↑i : Int) + (0 : Nat)))) (9000000 : Nat) ∧ ∀ (i_1 : Nat), i_1 < Row.n (R (Int.toNat (↑i : Int) + (0 : Nat))) → DV.v (Value.string (Row.tx (R (Int.toNat (↑i : Int) + (0 : Nat))) i_1)) = DV.v (Value.string (strD (DV.v (Value.string (Row.tx (R (Int.toNat (↑i : Int) + (0 : Nat))) i_1))))) ∧ Nat.le (ByteArray.size (strD (DV.v (Value.string (Row.tx (R (Int.toNat (↑i : Int) + (0 : Nat))) i_1))))) (9000000 : Nat) ∧ DV.v (Value.int IntKind.i64 (Row.wd (R (Int.toNat (↑i : Int) + (0 : Nat))) i_1)) = DV.v (Value.int IntKind.i64 (numD (DV.v (Value.int IntKind.i64 (Row.wd (R (Int.toNat (↑i : Int) + (0 : Nat))) i_1))))) ∧ DV.v (Value.int IntKind.i64 (Row.fo (R (Int.toNat (↑i : Int) + (0 : Nat))) i_1)) = DV.v (Value.int IntKind.i64 (numD (DV.v (Value.int IntKind.i64 (Row.fo (R (Int.toNat (↑i : Int) + (0 : Nat))) i_1))))) ∧ DV.v (Value.int IntKind.i64 (Row.ba (R (Int.toNat (↑i : Int) + (0 : Nat))) i_1)) = DV.v (Value.int IntKind.i64 (numD (DV.v (Value.int IntKind.i64 (Row.ba (R (Int.toNat (↑i : Int) + (0 : Nat))) i_1))))) ∧ DV.v (Value.int IntKind.i64 (Row.fl (R (Int.toNat (↑i : Int) + (0 : Nat))) i_1)) = DV.v (Value.int IntKind.i64 (numD (DV.v (Value.int IntKind.i64 (Row.fl (R (Int.toNat (↑i : Int) + (0 : Nat))) i_1))))))
    then bif F { n := Row.n (R (Int.toNat (↑i : Int) + (0 : Nat))), tx := fun i_1 => strD (DV.v (Value.string (Row.tx (R (Int.toNat (↑i : Int) + (0 : Nat))) i_1))), wd := fun i_1 => numD (DV.v (Value.int IntKind.i64 (Row.wd (R (Int.toNat (↑i : Int) + (0 : Nat))) i_1))), fo := fun i_1 => numD (DV.v (Value.int IntKind.i64 (Row.fo (R (Int.toNat (↑i : Int) + (0 : Nat))) i_1))), ba := fun i_1 => numD (DV.v (Value.int IntKind.i64 (Row.ba (R (Int.toNat (↑i : Int) + (0 : Nat))) i_1))), fl := fun i_1 => numD (DV.v (Value.int IntKind.i64 (Row.fl (R (Int.toNat (↑i : Int) + (0 : Nat))) i_1))) } != (0 : Int)
    then K Ex.ret (42 : Nat) [DV.po (0 : Nat) (0 : Nat) (0 : Nat), DV.v (Value.int IntKind.i64 (↑i : Int))] [DV.v (Value.int IntKind.i64 (F { n := Row.n (R (Int.toNat (↑i : Int) + (0 : Nat))), tx := fun i_1 => strD (DV.v (Value.string (Row.tx (R (Int.toNat (↑i : Int) + (0 : Nat))) i_1))), wd := fun i_1 => numD (DV.v (Value.int IntKind.i64 (Row.wd (R (Int.toNat (↑i : Int) + (0 : Nat))) i_1))), fo := fun i_1 => numD (DV.v (Value.int IntKind.i64 (Row.fo (R (Int.toNat (↑i : Int) + (0 : Nat))) i_1))), ba := fun i_1 => numD (DV.v (Value.int IntKind.i64 (Row.ba (R (Int.toNat (↑i : Int) + (0 : Nat))) i_1))), fl := fun i_1 => numD (DV.v (Value.int IntKind.i64 (Row.fl (R (Int.toNat (↑i : Int) + (0 : Nat))) i_1))) }))] [some { k := (3 : Nat), c := DC.lst [[DV.v (Value.int IntKind.i64 w), DV.v (Value.int IntKind.i64 h), DV.sl t (fun a a_1 => DV.sl (T a) (Row.cell (R a)) (5 : Nat) (Row.n (R a))) (1 : Nat) n]] }]
    else K Ex.normal (42 : Nat) [DV.po (0 : Nat) (0 : Nat) (0 : Nat), DV.v (Value.int IntKind.i64 (IntKind.wrap IntKind.i64 ((↑i : Int) + (1 : Int))))] [DV.any] [some { k := (3 : Nat), c := DC.lst [[DV.v (Value.int IntKind.i64 w), DV.v (Value.int IntKind.i64 h), DV.sl t (fun a a_1 => DV.sl (T a) (Row.cell (R a)) (5 : Nat) (Row.n (R a))) (1 : Nat) n]] }]
    else none else none else none else none else none else K (Ex.exit (0 : Nat)) (42 : Nat) [DV.po (0 : Nat) (0 : Nat) (0 : Nat), DV.v (Value.int IntKind.i64 (↑i : Int))] [DV.any] [some { k := (3 : Nat), c := DC.lst [[DV.v (Value.int IntKind.i64 w), DV.v (Value.int IntKind.i64 h), DV.sl t (fun a a_1 => DV.sl (T a) (Row.cell (R a)) (5 : Nat) (Row.n (R a))) (1 : Nat) n]] }] := by
  kernel_rfl
theorem gd_ls {st : AE.Stat} (hx : ∀ f, f ≠ 5 → f ≠ 22 → ∀ a σ, st.ext f a σ = none) : LoopS Tryz.prog st gl0 (.loop (loopAt Tryz.f23 122)) gdI.g := by
  refine gdI.ok (E := env [(28, rcC check7)] noLp 0) (p := 500) (tblD_env (l := [(28, rcC check7)]) (fun x h => ?_)) (glOk st).1 (fun _ _ _ h => nomatch h) (fun x k h => q_cps h) fun x hx => ?_
  · simp only [List.mem_cons, List.not_mem_nil, or_false] at h
    subst h
    exact rcC_ok hx
  obtain ⟨w, h, t, T, R, n, i⟩ := x
  obtain ⟨hn, hR⟩ : n ≤ 9000000 ∧ ∀ i, i < n → (R i).sized := hx
  refine (gd_loop check7 w h t T R n i _).trans ?_
  simp only [Int.toNat_natCast, Nat.add_zero]
  refine dS (fun hlt => ?_) fun hge => ?_
  · have hlt : i < n := by omega
    have e : n - i = (n - (i + 1)) + 1 := by omega
    have hW : IntKind.i64.wrap ((i : Int) + 1) = ((i + 1 : Nat) : Int) := by rw [W_in (by omega) (by omega)]; omega
    rw [hW]
    have hq : GX.q ⟨w, h, t, T, R, n, i⟩ = g8s w (R i) (g8 R w (n - (i + 1)) (i + 1)) := by simp only [GX.q, e, g8]
    unfold g8s at hq
    have stop : ∀ (v : Int), v ≠ 0 → GX.q ⟨w, h, t, T, R, n, i⟩ = v → gdI.ask ⟨w, h, t, T, R, n, i⟩ .ret 42 [.po 0 0 0, iv i] [iv v] [some ⟨3, .lst [[iv w, iv h, .sl t (rowsD T R) 1 n]]⟩] = some () := fun v hv hq => by
      refine LInv.ask_of ⟨rfl, ?_, [], ?_⟩
      · simp only [gdI]; rw [hq]; exact (if_neg hv).symm
      · simp only [gdI]; rw [hq]; show WkP 1 [] _ _ (qo v) _; rw [show qo v = [iv v] from if_neg hv]; exact wkN (.cons (.v _) .nil)
    refine dT (by omega) (dT hlt (cS (fun h1 => stop 12 (by decide) (by rw [hq, h1]; rfl)) fun h1 => dT (by omega) (dT hlt (hT (Row.ok (hR i hlt)) (cS (fun h2 => ?_) fun h2 => ?_)))))
    · have h2 : (check7 (R i) != 0) = true := h2
      exact stop (check7 (R i)) (by simpa using h2) (by rw [hq, h1, h2]; rfl)
    · have h2 : (check7 (R i) != 0) = false := h2
      rw [h1, h2, cond_false, cond_false] at hq
      refine LInv.ask_of ⟨rfl, ⟨w, h, t, T, R, n, i + 1⟩, ⟨?_, ?_, rfl, hn, hR⟩, ?_, [], wkS (fun d hd => ?_) (.cons (.po rfl) (.cons (.v _) .nil))⟩
      · simp only [gdI]; rw [hq]; rfl
      · simp only [gdI]; rw [hq]; rfl
      · simp only [gdI]; omega
      · simp only [List.mem_cons, List.not_mem_nil, or_false] at hd
        rcases hd with rfl | rfl | rfl
        · exact .v _
        · exact .v _
        · exact .sl _ _ _ _
  · have hr : GX.q ⟨w, h, t, T, R, n, i⟩ = 0 := by
      have : n - i = 0 := by omega
      simp only [GX.q, this, g8]
    refine LInv.ask_of ⟨rfl, ?_, [], ?_⟩
    · simp only [gdI]; rw [hr]; rfl
    · simp only [gdI]; rw [hr]; exact wkN (.cons (.any _) .nil)
noncomputable abbrev szC : ConF := inl2 Tryz.prog (env [] noLp 0) Tryz.f55
theorem szC_ok {st : AE.Stat} (hx : ∀ f, f ≠ 5 → f ≠ 22 → ∀ a σ, st.ext f a σ = none) : ConOk Tryz.prog st 55 szC := inl2_ok Tryz.func55 (by kernel_rfl) (by kernel_rfl) (hx 55 (by decide) (by decide)) (glOk st) (tblD_env (l := []) fun _ h => nomatch h) (fun _ _ _ h => nomatch h)
theorem gd_tree (F : Row → Int) (w h : Int) (t : Bool) (T : Nat → Bool) (R : Nat → Row) (n : Nat) (k : DV → Option Unit) : bodyD Tryz.prog (env [(28, rcC F), (55, szC)] (lpOf [(122, gdI.g)]) 0) Tryz.f23 [.agg [iv w, iv h, .sl t (rowsD T R) 1 n]] [] (fun d _ => k d) =
    bif decide (w ≥ (1 : Int)) then bif decide (w ≤ (132 : Int)) then bif decide (h ≥ (1 : Int)) then bif !decide (h ≤ (60 : Int)) then k (DV.v (Value.int IntKind.i64 (2 : Int))) else bif (↑n : Int) != h
    then k (DV.v (Value.int IntKind.i64 (1 : Int))) else bif holds ((Nat.le n (9000000 : Nat) ∧ ∀ (i : Nat), i < n → Nat.le (Row.n ((fun i => rowD (DV.sl (T i) (Row.cell (R i)) (5 : Nat) (Row.n (R i)))) i)) (9000000 : Nat) ∧ ∀ (i_1 : Nat), i_1 < Row.n ((fun i => rowD (DV.sl (T i) (Row.cell (R i)) (5 : Nat) (Row.n (R i)))) i) → Nat.le (ByteArray.size (Row.tx ((fun i => rowD (DV.sl (T i) (Row.cell (R i)) (5 : Nat) (Row.n (R i)))) i) i_1)) (9000000 : Nat)) ∧ ∃ ids, WkP (1 : Nat) ids [DV.po (0 : Nat) (0 : Nat) (0 : Nat), DV.v (Value.int IntKind.i64 (0 : Int))] [some { k := (3 : Nat), c := DC.lst [[DV.v (Value.int IntKind.i64 w), DV.v (Value.int IntKind.i64 h), DV.sl t (fun a a_1 => DV.sl (T a) (Row.cell (R a)) (5 : Nat) (Row.n (R a))) (1 : Nat) n]] }] [DV.po (0 : Nat) (0 : Nat) (0 : Nat), DV.v (Value.int IntKind.i64 (0 : Int))] [some { k := (3 : Nat), c := DC.lst [[DV.v (Value.int IntKind.i64 w), DV.v (Value.int IntKind.i64 h), DV.sl t (fun a a_1 => DV.sl ((fun i => slT (DV.sl (T i) (Row.cell (R i)) (5 : Nat) (Row.n (R i)))) a) (Row.cell ((fun i => rowD (DV.sl (T i) (Row.cell (R i)) (5 : Nat) (Row.n (R i)))) a)) (5 : Nat) (Row.n ((fun i => rowD (DV.sl (T i) (Row.cell (R i)) (5 : Nat) (Row.n (R i)))) a))) (1 : Nat) n]] }])
    then bif holds (GX.q { w := w, h := h, t := t, T := fun i => slT (DV.sl (T i) (Row.cell (R i)) (5 : Nat) (Row.n (R i))), R := fun i => rowD (DV.sl (T i) (Row.cell (R i)) (5 : Nat) (Row.n (R i))), n := n, i := (0 : Nat) } = (0 : Int))
    then k (DV.v (Value.int IntKind.i64 (0 : Int))) else k (DV.v (Value.int IntKind.i64 (GX.q { w := w, h := h, t := t, T := fun i => slT (DV.sl (T i) (Row.cell (R i)) (5 : Nat) (Row.n (R i))), R := fun i => rowD (DV.sl (T i) (Row.cell (R i)) (5 : Nat) (Row.n (R i))), n := n, i := (0 : Nat) })))
    else none else k (DV.v (Value.int IntKind.i64 (2 : Int))) else k (DV.v (Value.int IntKind.i64 (2 : Int))) else k (DV.v (Value.int IntKind.i64 (2 : Int))) := by
  kernel_rfl
/-- The reference's check of a grid. -/
def check8 (w h : Int) (R : Nat → Row) (n : Nat) : Int :=
  bif decide (w ≥ 1) && decide (w ≤ 132) && decide (h ≥ 1) && decide (h ≤ 60) then (bif (n : Int) != h then 1 else g8 R w n 0) else 2
theorem gd_true (w h : Int) (t : Bool) (T : Nat → Bool) (R : Nat → Row) (n : Nat) (hn : n ≤ 9000000) (hR : ∀ i, i < n → (R i).sized) : bodyD Tryz.prog (env [(28, rcC check7), (55, szC)] (lpOf [(122, gdI.g)]) 0) Tryz.f23 [.agg [iv w, iv h, .sl t (rowsD T R) 1 n]] [] (fun d _ => isD (iv (check8 w h R n)) d) = some () := by
  refine (gd_tree check7 w h t T R n _).trans ?_
  unfold check8
  refine dS (fun h1 => dS (fun h2 => dS (fun h3 => cS (fun h4 => isD_of ?_) fun h4 => cS (fun h5 => isD_of ?_) fun h5 => hT ⟨⟨hn, hR⟩, [], wkS (fun d hd => ?_) (.cons (.po rfl) (.cons (.v _) .nil))⟩ ?_) fun h3 => isD_of ?_) fun h2 => isD_of ?_) fun h1 => isD_of ?_
  · have h4 : decide (h ≤ 60) = false := by simpa using h4
    rw [decide_eq_true h1, decide_eq_true h2, decide_eq_true h3, h4]; rfl
  · have h4 : decide (h ≤ 60) = true := by simpa using h4
    rw [decide_eq_true h1, decide_eq_true h2, decide_eq_true h3, h4, h5]; rfl
  · simp only [List.mem_cons, List.not_mem_nil, or_false] at hd
    rcases hd with rfl | rfl | rfl
    · exact .v _
    · exact .v _
    · exact .sl _ _ _ _
  · have h4 : decide (h ≤ 60) = true := by simpa using h4
    rw [decide_eq_true h1, decide_eq_true h2, decide_eq_true h3, h4, h5]
    by_cases hq : g8 R w n 0 = 0
    · exact hT hq (isD_of (by rw [show (bif true && true && true && true then (bif false then (1 : Int) else g8 R w n 0) else 2) = g8 R w n 0 from rfl, hq]))
    · exact hF hq (isD_of rfl)
  · rw [decide_eq_true h1, decide_eq_true h2, decide_eq_false h3]; rfl
  · rw [decide_eq_true h1, decide_eq_false h2]; rfl
  · rw [decide_eq_false h1]; rfl
end Go.Proofs.YtabchbchopgnfaaGreatDoor
