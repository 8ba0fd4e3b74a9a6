/-
  The contract of attr.flag: a loop over the table of codes.
  Condition: the package-level table 'codes' holds its eight numbers (CodesIn).
-/
import Derived.Test.YtolmaphpfhplpaaDoorFun
namespace Go.Proofs.YtolmaphpfhplpaaDoor
open Go Go.AE Go.DE Go.RowKit

abbrev codesD : DV := .agg [iv 1, iv 2, iv 3, iv 4, iv 5, iv 7, iv 8, iv 9]
def p2 (i : Nat) : Int := ((2 ^ i : Nat) : Int)
/-- The flag that a number sets, from a place in the table on; the flags that it clears. -/
def flR (n : Int) : Nat → Nat → Int → Bool × Int × Int
  | 0, _, c => (false, 0, c)
  | m + 1, i, c => if n = codeN i then (true, p2 i, 0) else flR n m (i + 1) (if n = codeN i + 20 ∧ n ≠ 21 then p2 i else c)
theorem flR_zero {n : Int} : ∀ {m i : Nat} {c : Int}, ((flR n m i c).1 = true → (flR n m i c).2.2 = 0) ∧ ((flR n m i c).1 = false → (flR n m i c).2.1 = 0)
  | 0, _, _ => ⟨fun h => by simp [flR] at h, fun _ => rfl⟩
  | m + 1, i, c => by
    unfold flR
    split
    · exact ⟨fun _ => rfl, fun h => by simp at h⟩
    · exact flR_zero
structure FX where
  n : Int
  c : Int
  i : Nat
  hi : i ≤ 8
def FX.r (x : FX) : Bool × Int × Int := flR x.n (8 - x.i) x.i x.c
def flI : LInv FX where
  m := 0
  n := 30
  ps := [0, 2, 3, 6, 7]
  sd x := [iv x.n, iv 0, iv x.c, codesD, iv x.i]
  sh _ := []
  meas x := 8 - x.i
  e x := bif x.r.1 then .ret else .exit 0
  qs := [0, 2, 3]
  od x := [iv x.n, iv x.r.2.1, iv x.r.2.2]
  oh _ := []
  guess ds _ := match ds with
    | [.v (.int _ n), _, _, _, _] => some ⟨n, 0, 0, Nat.zero_le _⟩
    | _ => none
  cps x k := bif x.r.1 then k .ret [iv x.n, iv x.r.2.1, iv x.r.2.2] [] else k (.exit 0) [iv x.n, iv x.r.2.1, iv x.r.2.2] []
theorem flag_tree (n c : Int) (K : Ex → Nat → List DV → List DV → DHeap → Option Unit) (i : Nat) (hi : i < 8) :
    execD Tryd.prog (env [] noLp 0) (loopAt Tryd.f25 26) 52 (temps 30 [0, 2, 3, 6, 7] [iv n, iv 0, iv c, codesD, iv i]) [] (fun e τ σ => K e τ.length (pick [0, 2, 3, 6, 7] τ) (pick [0, 2, 3] τ) σ) =
      bif n == codeN i then K .ret 30 [iv n, iv (p2 i), iv 0, codesD, iv i] [iv n, iv (p2 i), iv 0] []
      else bif n == codeN i + 20 then
        bif n != 21 then K .normal 30 [iv n, iv 0, iv (p2 i), codesD, iv ((i + 1 : Nat) : Int)] [iv n, iv 0, iv (p2 i)] []
        else K .normal 30 [iv n, iv 0, iv c, codesD, iv ((i + 1 : Nat) : Int)] [iv n, iv 0, iv c] []
      else K .normal 30 [iv n, iv 0, iv c, codesD, iv ((i + 1 : Nat) : Int)] [iv n, iv 0, iv c] [] := by
  have h : i = 0 ∨ i = 1 ∨ i = 2 ∨ i = 3 ∨ i = 4 ∨ i = 5 ∨ i = 6 ∨ i = 7 := by omega
  rcases h with rfl | rfl | rfl | rfl | rfl | rfl | rfl | rfl <;> (show _ = _; kernel_rfl)
theorem flag_end (n c : Int) (K : Ex → Nat → List DV → List DV → DHeap → Option Unit) :
    execD Tryd.prog (env [] noLp 0) (loopAt Tryd.f25 26) 52 (temps 30 [0, 2, 3, 6, 7] [iv n, iv 0, iv c, codesD, iv ((8 : Nat) : Int)]) [] (fun e τ σ => K e τ.length (pick [0, 2, 3, 6, 7] τ) (pick [0, 2, 3] τ) σ) =
      K (.exit 0) 30 [iv n, iv 0, iv c, codesD, iv ((8 : Nat) : Int)] [iv n, iv 0, iv c] [] := by
  kernel_rfl
theorem wk5 {a b c d e : DV} (h1 : Clo a) (h2 : Clo b) (h3 : Clo c) (h4 : Clo d) (h5 : Clo e) : WkP 0 [] [a, b, c, d, e] [] [a, b, c, d, e] [] :=
  .of (.cons (.of_clo h1) (.cons (.of_clo h2) (.cons (.of_clo h3) (.cons (.of_clo h4) (.cons (.of_clo h5) .nil))))) rfl trivial rfl .nil
theorem wk3 {a b c : DV} (h1 : Clo a) (h2 : Clo b) (h3 : Clo c) : WkP 0 [] [a, b, c] [] [a, b, c] [] :=
  .of (.cons (.of_clo h1) (.cons (.of_clo h2) (.cons (.of_clo h3) .nil))) rfl trivial rfl .nil
theorem codesClo : Clo codesD := (flR_clo rfl).1
theorem flag_loop {st : AE.Stat} (hst : CodesIn st) : LoopS Tryd.prog st gl0 (.loop (loopAt Tryd.f25 26)) flI.g := by
  refine flI.ok (E := env [] noLp 0) (p := 52) (tblD_env (l := []) (fun _ h => nomatch h)) (glOk hst).1 (fun _ _ _ h => nomatch h) (fun x k h => ?_) fun x _ => ?_
  · simp only [flI] at h ⊢
    generalize x.r.1 = b at h ⊢
    cases b <;> exact h
  · obtain ⟨n, c, i, hi⟩ := x
    rcases Nat.lt_or_ge i 8 with hlt | hge
    · refine (flag_tree n c _ i hlt).trans ?_
      obtain ⟨m, hm⟩ : ∃ m, 8 - i = m + 1 := ⟨7 - i, by omega⟩
      have next : ∀ c', (if n = codeN i + 20 ∧ n ≠ 21 then p2 i else c) = c' → n ≠ codeN i → FX.r ⟨n, c', i + 1, hlt⟩ = FX.r ⟨n, c, i, hi⟩ := fun c' hc hn => by
        simp only [FX.r, hm, flR, hn, if_false, hc, show 8 - (i + 1) = m by omega]
      have goOn : ∀ c', (if n = codeN i + 20 ∧ n ≠ 21 then p2 i else c) = c' → n ≠ codeN i → flI.ask ⟨n, c, i, hi⟩ .normal 30 [iv n, iv 0, iv c', codesD, iv ((i + 1 : Nat) : Int)] [iv n, iv 0, iv c'] [] = some () := fun c' hc hn => by
        refine flI.ask_of ⟨rfl, ⟨n, c', i + 1, hlt⟩, ?_, ?_, [], wk5 (.v _) (.v _) (.v _) codesClo (.v _)⟩
        · simp only [flI, next c' hc hn, and_self]
        · simp only [flI]; omega
      refine cS (fun h => ?_) fun h => ?_
      · have hn : n = codeN i := by simpa using h
        have hr : FX.r ⟨n, c, i, hi⟩ = (true, p2 i, 0) := by simp only [FX.r, hm, flR]; rw [if_pos hn]
        refine flI.ask_of ⟨rfl, ?_, [], ?_⟩
        · simp only [flI, hr]; rfl
        · simp only [flI, hr]
          exact wk3 (.v _) (.v _) (.v _)
      · have hn : n ≠ codeN i := by simpa using h
        refine cS (fun h2 => ?_) fun h2 => ?_
        · have h2 : n = codeN i + 20 := by simpa using h2
          refine cS (fun h3 => ?_) fun h3 => ?_
          · have h3 : n ≠ 21 := by simpa using h3
            exact goOn _ (if_pos ⟨h2, h3⟩) hn
          · have h3 : n = 21 := by simpa using h3
            exact goOn _ (if_neg fun h => h.2 h3) hn
        · have h2 : n ≠ codeN i + 20 := by simpa using h2
          exact goOn _ (if_neg fun h => h2 h.1) hn
    · obtain rfl : i = 8 := by omega
      refine (flag_end n c _).trans ?_
      exact flI.ask_of ⟨rfl, rfl, [], wk3 (.v _) (.v _) (.v _)⟩

def flagF (n : Int) : Int × Int := ((flR n 8 0 0).2.1, bif (flR n 8 0 0).1 then 0 else if n = 22 then 3 else (flR n 8 0 0).2.2)
noncomputable def flagC : ConF := fun args k => match args with
  | [.v (.int .i64 n)] => k fun _ => (.tup [iv (flagF n).1, iv (flagF n).2], [])
  | _ => none
theorem flag_fun (n : Int) (k : DV → DHeap → Option Unit) : bodyD Tryd.prog (env [] (lpOf [(26, flI.g)]) 0) Tryd.f25 [iv n] [] k =
    bif
        holds
          (LInv.pre flI { n := n, c := 0, i := 0, hi := flI._proof_1 } ∧
            ∃ ids,
              WkP 0 ids
                [DV.v (Value.int IntKind.i64 n), DV.v (Value.int IntKind.i64 0), DV.v (Value.int IntKind.i64 0),
                  DV.agg
                    [DV.v (Value.int IntKind.i64 1), DV.v (Value.int IntKind.i64 2), DV.v (Value.int IntKind.i64 3),
                      DV.v (Value.int IntKind.i64 4), DV.v (Value.int IntKind.i64 5), DV.v (Value.int IntKind.i64 7),
                      DV.v (Value.int IntKind.i64 8), DV.v (Value.int IntKind.i64 9)],
                  DV.v (Value.int IntKind.i64 0)]
                []
                [DV.v (Value.int IntKind.i64 n), DV.v (Value.int IntKind.i64 0), DV.v (Value.int IntKind.i64 0),
                  DV.agg
                    [DV.v (Value.int IntKind.i64 1), DV.v (Value.int IntKind.i64 2), DV.v (Value.int IntKind.i64 3),
                      DV.v (Value.int IntKind.i64 4), DV.v (Value.int IntKind.i64 5), DV.v (Value.int IntKind.i64 7),
                      DV.v (Value.int IntKind.i64 8), DV.v (Value.int IntKind.i64 9)],
                  DV.v (Value.int IntKind.i64 (↑0 : Int))]
                (LInv.sh flI { n := n, c := 0, i := 0, hi := flI._proof_1 })) then
      bif (FX.r { n := n, c := 0, i := 0, hi := flI._proof_1 }).1 then
        k
          (DV.tup
            [DV.v (Value.int IntKind.i64 (Prod.fst (Prod.snd (FX.r { n := n, c := 0, i := 0, hi := flI._proof_1 })))),
              DV.v (Value.int IntKind.i64 (Prod.snd (Prod.snd (FX.r { n := n, c := 0, i := 0, hi := flI._proof_1 }))))])
          []
      else
        bif n == 22 then k (DV.tup [DV.v (Value.int IntKind.i64 0), DV.v (Value.int IntKind.i64 3)]) []
        else
          k
            (DV.tup
              [DV.v (Value.int IntKind.i64 0),
                DV.v (Value.int IntKind.i64 (Prod.snd (Prod.snd (FX.r { n := n, c := 0, i := 0, hi := flI._proof_1 }))))])
            []
    else none := by
  kernel_rfl
theorem flag_ok {st : AE.Stat} (hst : CodesIn st) : ConOk Tryd.prog st 25 flagC := by
  refine con_of (mg := []) (l := []) (lp := lpOf [(26, flI.g)]) (n := 0) (glOk hst) (fun _ h => nomatch h) Tryd.func25 (by kernel_rfl) (by kernel_rfl) (lp_one (by kernel_rfl) (flag_loop hst)) fun args k hk => ?_
  unfold flagC at hk
  split at hk <;> first | (cases hk; done) | skip
  rename_i n
  refine ⟨[iv n], _, .self .nil, hk, fun s => ⟨lowR_flat (pairClo _ _).2, ?_⟩⟩
  refine (flag_fun n _).trans ?_
  refine hT ⟨trivial, [], wk5 (.v _) (.v _) (.v _) codesClo (.v _)⟩ ?_
  have leaf : ∀ {a b : Int}, (flagF n) = (a, b) → fin s (.tup [iv (flagF n).1, iv (flagF n).2], []) (.tup [iv a, iv b]) [] = some () := fun h => fin_of (finQ_flat (pairClo _ _).1 (by rw [h]))
  refine cS (fun h => ?_) fun h => ?_
  · have h : (flR n 8 0 0).1 = true := h
    refine leaf ?_
    unfold flagF
    rw [h]
    show _ = ((flR n 8 0 0).2.1, (flR n 8 0 0).2.2)
    rw [flR_zero.1 h]
    rfl
  · have h : (flR n 8 0 0).1 = false := h
    refine cS (fun h2 => ?_) fun h2 => ?_
    · have h2 : n = 22 := by simpa using h2
      refine leaf ?_
      unfold flagF
      rw [h, flR_zero.2 h, h2]
      rfl
    · have h2 : n ≠ 22 := by simpa using h2
      refine leaf ?_
      unfold flagF
      rw [h, flR_zero.2 h, if_neg h2]
      rfl
end Go.Proofs.YtolmaphpfhplpaaDoor
