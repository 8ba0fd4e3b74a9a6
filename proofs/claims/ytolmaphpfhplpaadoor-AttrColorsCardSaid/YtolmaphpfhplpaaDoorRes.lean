/-
  'AttrResults': what the law computes is true.
  Condition: none; a plain law, and the law's tree.
-/
import Derived.Test.YtolmaphpfhplpaaDoorLaw
namespace Go.Proofs.YtolmaphpfhplpaaDoor
open Go Go.AE Go.DE Go.RowKit

theorem Ok_f {a : At} (h : a.Ok) : ∃ n : Nat, a.f = n ∧ n < 256 := ⟨a.f.toNat, by have := h.2.2; omega, by have := h.2.2; omega⟩
theorem bits_eq : ∀ n, n < 256 → bitsP (n : Nat) 8 0 [0] = bitsR 8 0 (n : Nat) [0] := by decide +kernel
theorem bits_len : ∀ n, n < 256 → (bitsP (n : Nat) 8 0 [0]).length ≤ 9 := by decide +kernel
theorem params_eq {a : At} (h : a.Ok) : paramsF a = rparamsF a := by
  obtain ⟨n, e, hn⟩ := Ok_f h
  unfold paramsF rparamsF
  rw [e, bits_eq n hn]
  unfold chooseL paintL
  rfl
theorem choose_len (c b : Int) : (chooseL c b).length ≤ 3 := by
  unfold chooseL
  repeat' split
  all_goals simp
theorem params_len {a : At} (h : a.Ok) : (paramsF a).length ≤ 15 := by
  obtain ⟨n, e, hn⟩ := Ok_f h
  unfold paramsF
  rw [e]
  have h1 := bits_len n hn
  have h2 := choose_len a.x 30
  have h3 := choose_len a.y 40
  simp only [List.length_append]
  split <;> split <;> simp <;> omega
theorem eqN_self (z : Nat → Int) : ∀ m i, (eqN z z m i).1 = true
  | 0, _ => rfl
  | m + 1, i => by
    rw [eqN, beq_self_eq_true]
    exact eqN_self z m (i + 1)
theorem same_self (z : Nat → Int) (n : Nat) : sameF z n z n = true := by
  unfold sameF
  rw [decide_eq_true rfl]
  exact eqN_self z n 0
theorem zadd (z : Nat → Int) : (fun j => z (0 + j)) = z := by
  funext j
  rw [Nat.zero_add]
theorem intsOk_iv {z : Nat → Int} {n : Nat} : intsOk (fun j _ => iv (z j)) n := fun _ _ => rfl
theorem res_tree (x y f : Int) (k : DV → Option Unit) : bodyD Tryd.prog (env lawT noLp 0) Tryd.f4 [.agg [iv x, iv y, iv f]] [] (fun d _ => k d) =
    bif rightF { x := x, y := y, f := f } == (0 : Int) then
      bif chkF { x := x, y := y, f := f } == (2 : Int) then k (DV.v (Value.bool true)) else k (DV.v (Value.bool false))
    else
      bif chkF { x := x, y := y, f := f } == (0 : Int) then
        bif holds (x ≤ (1000000 : Int) ∧ y ≤ (1000000 : Int)) then
          bif holds (x ≤ (1000000 : Int) ∧ y ≤ (1000000 : Int)) then
            bif
                decide
                  ((0 : Nat) + List.length (paramsF { x := x, y := y, f := f }) ≤
                    DC.n (DBlk.c (lL (paramsF { x := x, y := y, f := f })))) then
              bif
                  decide
                    ((0 : Nat) + List.length (rparamsF { x := x, y := y, f := f }) ≤
                      DC.n (DBlk.c (lL (rparamsF { x := x, y := y, f := f })))) then
                bif
                    holds
                      (intsOk
                        (fun j f_1 =>
                          DV.v (Value.int IntKind.i64 (lw (paramsF { x := x, y := y, f := f }) ((0 : Nat) + j))))
                        (List.length (paramsF { x := x, y := y, f := f }))) then
                  bif
                      holds
                        (intsOk
                          (fun j f_1 =>
                            DV.v (Value.int IntKind.i64 (lw (rparamsF { x := x, y := y, f := f }) ((0 : Nat) + j))))
                          (List.length (rparamsF { x := x, y := y, f := f }))) then
                    bif holds (List.length (paramsF { x := x, y := y, f := f }) ≤ (1000100 : Nat)) then
                      bif
                          sameF (fun i => lw (paramsF { x := x, y := y, f := f }) ((0 : Nat) + i))
                            (List.length (paramsF { x := x, y := y, f := f }))
                            (fun i => lw (rparamsF { x := x, y := y, f := f }) ((0 : Nat) + i))
                            (List.length (rparamsF { x := x, y := y, f := f })) then
                        bif styF { x := x, y := y, f := f } == styF { x := x, y := y, f := f } then
                          k (DV.v (Value.bool true))
                        else k (DV.v (Value.bool false))
                      else k (DV.v (Value.bool false))
                    else none
                  else none
                else none
              else none
            else none
          else none
        else none
      else k (DV.v (Value.bool false)) := by
  kernel_rfl
theorem res_true (x y f : Int) : bodyD Tryd.prog (env lawT noLp 0) Tryd.f4 [.agg [iv x, iv y, iv f]] [] (fun d _ => isD (.v (.bool true)) d) = some () := by
  refine (res_tree x y f _).trans ?_
  by_cases h : At.Ok ⟨x, y, f⟩
  · have h1 : rightF ⟨x, y, f⟩ = 1 := if_pos h
    have h2 : chkF ⟨x, y, f⟩ = 0 := if_pos h
    have h3 := params_len h
    have h4 : x ≤ 1000000 ∧ y ≤ 1000000 := by
      have := h.1.2
      have := h.2.1.2
      simp only at *
      omega
    rw [h1, h2, ← params_eq h]
    refine cF rfl (cT rfl (hT h4 (hT h4 (dT (by simp [lL, lB, DC.n]) (dT (by simp [lL, lB, DC.n]) (hT intsOk_iv (hT intsOk_iv (hT (by omega) (cT ?_ (cT (by simp) (isD_of rfl)))))))))))
    rw [zadd]
    exact same_self _ _
  · have h1 : rightF ⟨x, y, f⟩ = 0 := if_neg h
    have h2 : chkF ⟨x, y, f⟩ = 2 := if_neg h
    rw [h1, h2]
    exact cT rfl (cT rfl (isD_of rfl))
noncomputable def lawC1 : ConF := fun args k => match args with
  | [.agg [.v (.int .i64 _), .v (.int .i64 _), .v (.int .i64 _)]] => k fun _ => (.v (.bool true), [])
  | _ => none
theorem res_ok {st : AE.Stat} (hst : CodesIn st) : ConOk Tryd.prog st 4 lawC1 := by
  refine con_flat (mg := []) (l := lawT) (lp := noLp) (n := 0) (glOk hst) (lawT_ok hst) Tryd.func4 (by kernel_rfl) (by kernel_rfl) (fun _ _ _ h => nomatch h) fun args k hk => ?_
  unfold lawC1 at hk
  split at hk <;> first | (cases hk; done) | skip
  exact ⟨_, _, .self .nil, flR_clo rfl, hk, res_true _ _ _⟩
end Go.Proofs.YtolmaphpfhplpaaDoor
