/-
  The contracts of the reference's cluster width and of its check of a row of cells.
  Conditions: none beyond those of the contracts.
-/
import Derived.Test.YtabchbchopgnfaaGreatDoorJChk
namespace Go.Proofs.YtabchbchopgnfaaGreatDoor
open Go Go.AE Go.DE Go.RowKit

noncomputable def ckC (F : ByteArray → Int) : ConF := fun args k => match args with
  | [.v (.string s)] => bif decide (s.size ≤ 9000000) then k (fun _ => (iv (F s), [])) else none
  | _ => none
theorem ckC_ok {st : AE.Stat} (hx : ∀ f, f ≠ 5 → f ≠ 22 → ∀ a σ, st.ext f a σ = none) : ConOk Tryz.prog st 58 (ckC check3) := by
  refine con_flat (mg := []) (l := ckL validF chF markF widF) (lp := lpOf [(250, mkI.g)]) (n := 0) (glOk st) (fun x h => ?_) Tryz.func58 (by kernel_rfl) (by kernel_rfl) (hx 58 (by decide) (by decide)) (lp_one (by kernel_rfl) (mk_ls hx)) fun args k hk => ?_
  · simp only [ckL, List.mem_cons, List.not_mem_nil, or_false] at h
    rcases h with rfl | rfl | rfl | rfl
    · exact vaC_ok hx
    · exact chC_ok hx
    · exact markC_ok hx
    · exact widC_ok hx
  unfold ckC at hk
  split at hk <;> first | (cases hk; done) | skip
  rename_i s
  obtain ⟨hn, hk⟩ := dec_none hk
  exact ⟨[sv s], _, .self .nil, v_clo _, hk, ck_true s hn⟩
noncomputable abbrev cwL (F : ByteArray → Int) (A : ByteArray → List Int) (D : Int → Int) : List (FuncId × ConF) := [(58, ckC F), (100, chG A), (102, widC D)]
theorem cw_tree (F : ByteArray → Int) (A : ByteArray → List Int) (D : Int → Int) (s : ByteArray) (k : DV → Option Unit) : bodyD Tryz.prog (env (cwL F A D) noLp 0) Tryz.f59 [sv s] [] (fun d _ => k d) =
    bif decide (ByteArray.size s ≤ (9000000 : Nat)) then bif F s != (0 : Int) then k (DV.v (Value.int IntKind.i64 (0 : Int))) else bif decide (ByteArray.size s ≤ (9000000 : Nat)) then bif decide ((0 : Int) < (↑(List.length (A s)) : Int))
    then bif decide ((0 : Nat) + (0 : Nat) / DBlk.k (lstB IntKind.i32 (A s)) < List.length (A s)) then k (DV.v (Value.int IntKind.i64 (D (lw (A s) ((0 : Nat) + (0 : Nat) / DBlk.k (lstB IntKind.i32 (A s)))))))
    else none else none else none else none := by
  kernel_rfl
/-- The reference's width of a cluster. -/
def width3 (s : ByteArray) : Int := if check3 s = 0 then widF (lw (decF s).1 0) else 0
theorem check3_ne {s : ByteArray} (h : check3 s = 0) : 0 < (decF s).1.length := by
  unfold check3 at h
  cases h1 : (ByteArray.toList s == ByteArray.toList ⟨#[]⟩) with
  | true => rw [h1] at h; cases h
  | false =>
    cases h2 : validF s with
    | false => rw [h1, h2] at h; cases h
    | true => exact List.length_pos_iff.2 (valid_ne h2 fun e => by rw [e, beq_self_eq_true] at h1; cases h1)
theorem cw_true (s : ByteArray) (hn : s.size ≤ 9000000) : bodyD Tryz.prog (env (cwL check3 chF widF) noLp 0) Tryz.f59 [sv s] [] (fun d _ => isD (iv (width3 s)) d) = some () := by
  refine (cw_tree check3 chF widF s _).trans ?_
  have hlen : (chF s).length ≤ s.size := decF_len hn
  have z0 : 0 + 0 / (lstB IntKind.i32 (chF s)).k = 0 := by simp [lstB]
  simp only [z0]
  refine dT hn (cS (fun h => isD_of ?_) fun h => ?_)
  · have h : check3 s ≠ 0 := by simpa using h
    unfold width3; rw [if_neg h]
  · have h : check3 s = 0 := by simpa using h
    have hne := check3_ne h
    refine dT hn (dT (by have : 0 < (chF s).length := hne; omega) (dT hne (isD_of ?_)))
    unfold width3; rw [if_pos h]
    rfl
noncomputable def cwC (F : ByteArray → Int) : ConF := fun args k => match args with
  | [.v (.string s)] => bif decide (s.size ≤ 9000000) then k (fun _ => (iv (F s), [])) else none
  | _ => none
theorem cwC_ok {st : AE.Stat} (hx : ∀ f, f ≠ 5 → f ≠ 22 → ∀ a σ, st.ext f a σ = none) : ConOk Tryz.prog st 59 (cwC width3) := by
  refine con_flat (mg := []) (l := cwL check3 chF widF) (lp := noLp) (n := 0) (glOk st) (fun x h => ?_) Tryz.func59 (by kernel_rfl) (by kernel_rfl) (hx 59 (by decide) (by decide)) (fun _ _ _ h => nomatch h) fun args k hk => ?_
  · simp only [cwL, List.mem_cons, List.not_mem_nil, or_false] at h
    rcases h with rfl | rfl | rfl
    · exact ckC_ok hx
    · exact chC_ok hx
    · exact widC_ok hx
  unfold cwC at hk
  split at hk <;> first | (cases hk; done) | skip
  rename_i s
  obtain ⟨hn, hk⟩ := dec_none hk
  exact ⟨[sv s], _, .self .nil, v_clo _, hk, cw_true s hn⟩
/-- A row of cells. -/
structure Row where
  n : Nat
  tx : Nat → ByteArray
  wd : Nat → Int
  fo : Nat → Int
  ba : Nat → Int
  fl : Nat → Int
def Row.cell (r : Row) (i : Nat) : Nat → DV
  | 0 => sv (r.tx i)
  | 1 => iv (r.wd i)
  | 2 => iv (r.fo i)
  | 3 => iv (r.ba i)
  | _ => iv (r.fl i)
/-- Whether a cell is the one behind a wide one. -/
def Row.half (r : Row) (i j : Nat) : Bool :=
  bif r.tx j == ⟨#[]⟩ then (bif r.wd j == 0 then (bif (bif r.fo j == r.fo i then (bif r.ba j == r.ba i then (bif r.fl j == r.fl i then true else false) else false) else false) then true else false) else false) else false
/-- The reference's check of a row, from a cell on. -/
def c7s (r : Row) (i : Nat) (a b : Int) : Int :=
  bif (r.wd i != 1) && (r.wd i != 2) then 12 else bif check3 (r.tx i) != 0 then 3 else bif width3 (r.tx i) != r.wd i then 12 else
    bif r.wd i == 1 then a else bif ((i + 1 : Nat) : Int) == (r.n : Int) then 12 else bif r.half i (i + 1) then b else 12
def c7 (r : Row) : Nat → Nat → Int
  | 0, _ => 0
  | m + 1, i => if i < r.n then c7s r i (c7 r m (i + 1)) (c7 r m (i + 2)) else 0
def Row.sized (r : Row) : Prop := r.n ≤ 9000000 ∧ ∀ i, i < r.n → (r.tx i).size ≤ 9000000
/-- How a loop ends that answers a number unless it is 0. -/
def qe (v : Int) : Ex := if v = 0 then .exit 0 else .ret
def qo (v : Int) : List DV := if v = 0 then [.any] else [iv v]
theorem q_cps {v : Int} {σ : DHeap} {k : Ex → List DV → DHeap → Option Unit} (h : (bif holds (v = 0) then k (.exit 0) [.any] σ else k .ret [iv v] σ) = some ()) : k (qe v) (qo v) σ = some () := by
  rcases bif_some h with ⟨h1, h2⟩ | ⟨h1, h2⟩
  · unfold qe qo; rw [if_pos (holds_eq.1 h1), if_pos (holds_eq.1 h1)]; exact h2
  · have h1 : ¬ v = 0 := fun e => by rw [holds_eq.2 e] at h1; cases h1
    unfold qe qo; rw [if_neg h1, if_neg h1]; exact h2
def strD : DV → ByteArray
  | .v (.string s) => s
  | _ => ⟨#[]⟩
/-- A row, out of its cells. -/
def rowOf (g : Nat → Nat → DV) (n : Nat) : Row := ⟨n, fun i => strD (g i 0), fun i => numD (g i 1), fun i => numD (g i 2), fun i => numD (g i 3), fun i => numD (g i 4)⟩
structure CX where
  t : Bool
  r : Row
  m : Nat
  i : Nat
def CX.q (x : CX) : Int := c7 x.r x.m x.i
noncomputable def rwI : LInv CX where
  pre x := x.r.sized ∧ x.r.n ≤ x.m + x.i
  m := 0
  n := 68
  ps := [0, 3]
  sd x := [.sl x.t x.r.cell 5 x.r.n, iv x.i]
  sh _ := []
  meas x := x.r.n - x.i
  e x := qe x.q
  qs := [2]
  od x := qo x.q
  oh _ := []
  guess ds _ := match ds with
    | [.sl t g 5 n, _] => some ⟨t, rowOf g n, n, 0⟩
    | _ => none
  cps x k := bif holds (x.q = 0) then k (.exit 0) [.any] [] else k .ret [iv x.q] []
theorem rw_loop (F G : ByteArray → Int) (t : Bool) (r : Row) (i : Nat) (K : Ex → Nat → List DV → List DV → DHeap → Option Unit) : execD Tryz.prog (env [(58, ckC F), (59, cwC G)] noLp 0) (loopAt Tryz.f28 58) 500 (temps 68 [0, 3] [.sl t r.cell 5 r.n, iv i]) [] (fun e τ σ => K e τ.length (pick [0, 3] τ) (pick [2] τ) σ) =
    bif decide ((↑i : Int) < (↑(Row.n r) : Int)) then bif decide ((↑i : Int) < (↑(Row.n r) : Int)) then bif decide (Int.toNat (↑i : Int) + (0 : Nat) < Row.n r) then bif Row.wd r (Int.toNat (↑i : Int) + (0 : Nat)) != (1 : Int)
    then bif Row.wd r (Int.toNat (↑i : Int) + (0 : Nat)) != (2 : Int) then K Ex.ret (68 : Nat) [DV.sl t (Row.cell r) (5 : Nat) (Row.n r), DV.v (Value.int IntKind.i64 (↑i : Int))] [DV.v (Value.int IntKind.i64 (12 : Int))] []
    else bif decide ((↑i : Int) < (↑(Row.n r) : Int)) then bif decide (Int.toNat (↑i : Int) + (0 : Nat) < Row.n r) then bif decide (ByteArray.size (Row.tx r (Int.toNat (↑i : Int) + (0 : Nat))) ≤ (9000000 : Nat))
    then bif F (Row.tx r (Int.toNat (↑i : Int) + (0 : Nat))) != (0 : Int) then K Ex.ret (68 : Nat) [DV.sl t (Row.cell r) (5 : Nat) (Row.n r), DV.v (Value.int IntKind.i64 (↑i : Int))] [DV.v (Value.int IntKind.i64 (3 : Int))] []
    else bif decide ((↑i : Int) < (↑(Row.n r) : Int)) then bif decide (Int.toNat (↑i : Int) + (0 : Nat) < Row.n r) then bif decide (ByteArray.size (Row.tx r (Int.toNat (↑i : Int) + (0 : Nat))) ≤ (9000000 : Nat))
    then bif G (Row.tx r (Int.toNat (↑i : Int) + (0 : Nat))) != Row.wd r (Int.toNat (↑i : Int) + (0 : Nat)) then K Ex.ret (68 : Nat) [DV.sl t (Row.cell r) (5 : Nat) (Row.n r), DV.v (Value.int IntKind.i64 (↑i : Int))] [DV.v (Value.int IntKind.i64 (12 : Int))] []
    else bif Row.wd r (Int.toNat (↑i : Int) + (0 : Nat)) == (1 : Int) then K Ex.normal (68 : Nat) [DV.sl t (Row.cell r) (5 : Nat) (Row.n r), DV.v (Value.int IntKind.i64 (IntKind.wrap IntKind.i64 ((↑i : Int) + (1 : Int))))] [DV.any] []
    else bif IntKind.wrap IntKind.i64 ((↑i : Int) + (1 : Int)) == (↑(Row.n r) : Int) then K Ex.ret (68 : Nat) [DV.sl t (Row.cell r) (5 : Nat) (Row.n r), DV.v (Value.int IntKind.i64 (↑i : Int))] [DV.v (Value.int IntKind.i64 (12 : Int))] []
    else bif decide ((0 : Int) ≤ IntKind.wrap IntKind.i64 ((↑i : Int) + (1 : Int))) then bif decide (IntKind.wrap IntKind.i64 ((↑i : Int) + (1 : Int)) < (↑(Row.n r) : Int)) then bif decide (Int.toNat (IntKind.wrap IntKind.i64 ((↑i : Int) + (1 : Int))) + (0 : Nat) < Row.n r)
    then bif decide (Int.toNat (IntKind.wrap IntKind.i64 ((↑i : Int) + (1 : Int))) + (0 : Nat) < Row.n r) then bif decide (Int.toNat (IntKind.wrap IntKind.i64 ((↑i : Int) + (1 : Int))) + (0 : Nat) < Row.n r)
    then bif decide (Int.toNat (IntKind.wrap IntKind.i64 ((↑i : Int) + (1 : Int))) + (0 : Nat) < Row.n r) then bif decide (Int.toNat (IntKind.wrap IntKind.i64 ((↑i : Int) + (1 : Int))) + (0 : Nat) < Row.n r)
    then bif decide ((↑i : Int) < (↑(Row.n r) : Int)) then bif decide (Int.toNat (↑i : Int) + (0 : Nat) < Row.n r) then bif decide (Int.toNat (↑i : Int) + (0 : Nat) < Row.n r) then bif decide (Int.toNat (↑i : Int) + (0 : Nat) < Row.n r)
    then bif !bif Row.tx r (Int.toNat (IntKind.wrap IntKind.i64 ((↑i : Int) + (1 : Int))) + (0 : Nat)) == { data := #[] } then bif Row.wd r (Int.toNat (IntKind.wrap IntKind.i64 ((↑i : Int) + (1 : Int))) + (0 : Nat)) == (0 : Int)
    then bif bif Row.fo r (Int.toNat (IntKind.wrap IntKind.i64 ((↑i : Int) + (1 : Int))) + (0 : Nat)) == Row.fo r (Int.toNat (↑i : Int) + (0 : Nat)) then bif Row.ba r (Int.toNat (IntKind.wrap IntKind.i64 ((↑i : Int) + (1 : Int))) + (0 : Nat)) == Row.ba r (Int.toNat (↑i : Int) + (0 : Nat))
    then bif Row.fl r (Int.toNat (IntKind.wrap IntKind.i64 ((↑i : Int) + (1 : Int))) + (0 : Nat)) == Row.fl r (Int.toNat (↑i : Int) + (0 : Nat)) then true else false else false else false then true else false
    else false else false then K Ex.ret (68 : Nat) [DV.sl t (Row.cell r) (5 : Nat) (Row.n r), DV.v (Value.int IntKind.i64 (↑i : Int))] [DV.v (Value.int IntKind.i64 (12 : Int))] [] else K Ex.normal (68 : Nat) [DV.sl t (Row.cell r) (5 : Nat) (Row.n r), DV.v (Value.int IntKind.i64 (IntKind.wrap IntKind.i64 (IntKind.wrap IntKind.i64 ((↑i : Int) + (1 : Int)) + (1 : Int))))] [DV.any] []
    else none else none else none else none else none else none else none else none else none else none else none else none else none else none else none else none else none else bif decide ((↑i : Int) < (↑(Row.n r) : Int))
    then bif decide (Int.toNat (↑i : Int) + (0 : Nat) < Row.n r) then bif decide (ByteArray.size (Row.tx r (Int.toNat (↑i : Int) + (0 : Nat))) ≤ (9000000 : Nat)) then bif F (Row.tx r (Int.toNat (↑i : Int) + (0 : Nat))) != (0 : Int)
    then K Ex.ret (68 : Nat) [DV.sl t (Row.cell r) (5 : Nat) (Row.n r), DV.v (Value.int IntKind.i64 (↑i : Int))] [DV.v (Value.int IntKind.i64 (3 : Int))] [] else bif decide ((↑i : Int) < (↑(Row.n r) : Int))
    then bif decide (Int.toNat (↑i : Int) + (0 : Nat) < Row.n r) then bif decide (ByteArray.size (Row.tx r (Int.toNat (↑i : Int) + (0 : Nat))) ≤ (9000000 : Nat)) then bif G (Row.tx r (Int.toNat (↑i : Int) + (0 : Nat))) != Row.wd r (Int.toNat (↑i : Int) + (0 : Nat))
    then K Ex.ret (68 : Nat) [DV.sl t (Row.cell r) (5 : Nat) (Row.n r), DV.v (Value.int IntKind.i64 (↑i : Int))] [DV.v (Value.int IntKind.i64 (12 : Int))] [] else bif Row.wd r (Int.toNat (↑i : Int) + (0 : Nat)) == (1 : Int)
    then K Ex.normal (68 : Nat) [DV.sl t (Row.cell r) (5 : Nat) (Row.n r), DV.v (Value.int IntKind.i64 (IntKind.wrap IntKind.i64 ((↑i : Int) + (1 : Int))))] [DV.any] [] else bif IntKind.wrap IntKind.i64 ((↑i : Int) + (1 : Int)) == (↑(Row.n r) : Int)
    then K Ex.ret (68 : Nat) [DV.sl t (Row.cell r) (5 : Nat) (Row.n r), DV.v (Value.int IntKind.i64 (↑i : Int))] [DV.v (Value.int IntKind.i64 (12 : Int))] [] else bif decide ((0 : Int) ≤ IntKind.wrap IntKind.i64 ((↑i : Int) + (1 : Int)))
    then bif decide (IntKind.wrap IntKind.i64 ((↑i : Int) + (1 : Int)) < (↑(Row.n r) : Int)) then bif decide (Int.toNat (IntKind.wrap IntKind.i64 ((↑i : Int) + (1 : Int))) + (0 : Nat) < Row.n r) then bif decide (Int.toNat (IntKind.wrap IntKind.i64 ((↑i : Int) + (1 : Int))) + (0 : Nat) < Row.n r)
    then bif decide (Int.toNat (IntKind.wrap IntKind.i64 ((↑i : Int) + (1 : Int))) + (0 : Nat) < Row.n r) then bif decide (Int.toNat (IntKind.wrap IntKind.i64 ((↑i : Int) + (1 : Int))) + (0 : Nat) < Row.n r)
    then bif decide (Int.toNat (IntKind.wrap IntKind.i64 ((↑i : Int) + (1 : Int))) + (0 : Nat) < Row.n r) then bif decide ((↑i : Int) < (↑(Row.n r) : Int)) then bif decide (Int.toNat (↑i : Int) + (0 : Nat) < Row.n r)
    then bif decide (Int.toNat (↑i : Int) + (0 : Nat) < Row.n r) then bif decide (Int.toNat (↑i : Int) + (0 : Nat) < Row.n r) then bif !bif Row.tx r (Int.toNat (IntKind.wrap IntKind.i64 ((↑i : Int) + (1 : Int))) + (0 : Nat)) == { data := #[] }
    then bif Row.wd r (Int.toNat (IntKind.wrap IntKind.i64 ((↑i : Int) + (1 : Int))) + (0 : Nat)) == (0 : Int) then bif bif Row.fo r (Int.toNat (IntKind.wrap IntKind.i64 ((↑i : Int) + (1 : Int))) + (0 : Nat)) == Row.fo r (Int.toNat (↑i : Int) + (0 : Nat))
    then bif Row.ba r (Int.toNat (IntKind.wrap IntKind.i64 ((↑i : Int) + (1 : Int))) + (0 : Nat)) == Row.ba r (Int.toNat (↑i : Int) + (0 : Nat)) then bif Row.fl r (Int.toNat (IntKind.wrap IntKind.i64 ((↑i : Int) + (1 : Int))) + (0 : Nat)) == Row.fl r (Int.toNat (↑i : Int) + (0 : Nat))
    then true else false else false else false then true else false else false else false then K Ex.ret (68 : Nat) [DV.sl t (Row.cell r) (5 : Nat) (Row.n r), DV.v (Value.int IntKind.i64 (↑i : Int))] [DV.v (Value.int IntKind.i64 (12 : Int))] []
    else K Ex.normal (68 : Nat) [DV.sl t (Row.cell r) (5 : Nat) (Row.n r), DV.v (Value.int IntKind.i64 (IntKind.wrap IntKind.i64 (IntKind.wrap IntKind.i64 ((↑i : Int) + (1 : Int)) + (1 : Int))))] [DV.any] []
    else none else none else none else none else none else none else none else none else none else none else none else none else none else none else none else none else none else none else none else K (Ex.exit (0 : Nat)) (68 : Nat) [DV.sl t (Row.cell r) (5 : Nat) (Row.n r), DV.v (Value.int IntKind.i64 (↑i : Int))] [DV.any] [] := by
  kernel_rfl
theorem rw_ls {st : AE.Stat} (hx : ∀ f, f ≠ 5 → f ≠ 22 → ∀ a σ, st.ext f a σ = none) : LoopS Tryz.prog st gl0 (.loop (loopAt Tryz.f28 58)) rwI.g := by
  refine rwI.ok (E := env [(58, ckC check3), (59, cwC width3)] noLp 0) (p := 500) (tblD_env (l := [(58, ckC check3), (59, cwC width3)]) (fun x h => ?_)) (glOk st).1 (fun _ _ _ h => nomatch h) (fun x k h => ?_) fun x hx => ?_
  · simp only [List.mem_cons, List.not_mem_nil, or_false] at h
    rcases h with rfl | rfl
    · exact ckC_ok hx
    · exact cwC_ok hx
  · exact q_cps h
  obtain ⟨t, r, m, i⟩ := x
  obtain ⟨hn, hm⟩ : r.sized ∧ r.n ≤ m + i := hx
  refine (rw_loop check3 width3 t r i _).trans ?_
  simp only [Int.toNat_natCast, Nat.add_zero]
  have hsz := hn.1
  refine dS (fun hlt => ?_) fun hge => ?_
  · have hlt : i < r.n := by omega
    have hts := hn.2 i hlt
    obtain ⟨m, rfl⟩ : ∃ m', m = m' + 1 := ⟨m - 1, by omega⟩
    have hW : IntKind.i64.wrap ((i : Int) + 1) = ((i + 1 : Nat) : Int) := by rw [W_in (by omega) (by omega)]; omega
    have hW2 : IntKind.i64.wrap (((i + 1 : Nat) : Int) + 1) = ((i + 2 : Nat) : Int) := by rw [W_in (by omega) (by omega)]; omega
    simp only [hW, hW2, Int.toNat_natCast]
    have hq : CX.q ⟨t, r, m + 1, i⟩ = c7s r i (c7 r m (i + 1)) (c7 r m (i + 2)) := by simp only [CX.q, c7, if_pos hlt]
    have stop : ∀ (v : Int), v ≠ 0 → CX.q ⟨t, r, m + 1, i⟩ = v → rwI.ask ⟨t, r, m + 1, i⟩ .ret 68 [.sl t r.cell 5 r.n, iv i] [iv v] [] = some () := fun v hv hq => by
      refine LInv.ask_of ⟨rfl, ?_, [], ?_⟩
      · simp only [rwI]; rw [hq]; exact (if_neg hv).symm
      · simp only [rwI]; rw [hq]; show WkP 0 [] _ _ (qo v) _; rw [show qo v = [iv v] from if_neg hv]; exact wk0 (.cons (.v _) .nil) rfl
    have go : ∀ (j : Nat), i < j → CX.q ⟨t, r, m, j⟩ = CX.q ⟨t, r, m + 1, i⟩ → rwI.ask ⟨t, r, m + 1, i⟩ .normal 68 [.sl t r.cell 5 r.n, iv j] [.any] [] = some () := fun j hj hq =>
      LInv.ask_of ⟨rfl, ⟨t, r, m, j⟩, ⟨by simp only [rwI, hq], by simp only [rwI, hq], rfl, hn, by show r.n ≤ m + j; omega⟩, by simp only [rwI]; omega, [], wk0 (.cons (.sl _ _ _ _) (.cons (.v _) .nil)) rfl⟩
    rw [hq] at stop go
    unfold c7s at stop go
    refine dT (by omega) (dT hlt (cS (fun h1 => cS (fun h2 => stop 12 (by decide) (by rw [h1, h2]; rfl)) fun h2 => ?_) fun h1 => ?_))
    all_goals
      have hh : ((r.wd i != 1) && (r.wd i != 2)) = false := by simp [h1] <;> simpa using h2
      rw [hh, cond_false] at stop go
      refine dT (by omega) (dT hlt (dT hts (cS (fun h3 => stop 3 (by decide) (by rw [h3]; rfl)) fun h3 => ?_)))
      rw [h3, cond_false] at stop go
      refine dT (by omega) (dT hlt (dT hts (cS (fun h4 => stop 12 (by decide) (by rw [h4]; rfl)) fun h4 => ?_)))
      rw [h4, cond_false] at stop go
      refine cS (fun h5 => go (i + 1) (by omega) (by rw [h5, cond_true]; rfl)) fun h5 => ?_
      rw [h5, cond_false] at stop go
      refine cS (fun h6 => stop 12 (by decide) (by rw [h6]; rfl)) fun h6 => ?_
      rw [h6, cond_false] at stop go
      have h6 : ((i + 1 : Nat) : Int) ≠ r.n := by simpa using h6
      refine dT (by omega) (dT (by omega) (dT (by omega) (dT (by omega) (dT (by omega) (dT (by omega) (dT (by omega) (dT (by omega) (dT hlt (dT hlt (dT hlt (cS (fun h7 => ?_) fun h7 => ?_)))))))))))
      · have h7 : (!r.half i (i + 1)) = true := h7
        have h7 : r.half i (i + 1) = false := by simpa using h7
        exact stop 12 (by decide) (by rw [h7]; rfl)
      · have h7 : (!r.half i (i + 1)) = false := h7
        have h7 : r.half i (i + 1) = true := by simpa using h7
        exact go (i + 2) (by omega) (by rw [h7, cond_true]; rfl)
  · have hr : CX.q ⟨t, r, m, i⟩ = 0 := by
      cases m with
      | zero => rfl
      | succ m => simp only [CX.q, c7]; rw [if_neg (by omega)]
    refine LInv.ask_of ⟨rfl, ?_, [], ?_⟩
    · simp only [rwI]; rw [hr]; rfl
    · simp only [rwI]; rw [hr]; exact wk0 (.cons (.any _) .nil) rfl
end Go.Proofs.YtabchbchopgnfaaGreatDoor
