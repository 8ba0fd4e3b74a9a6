/-
  'AttrRoundTrip': what the law computes is true.
  Condition: none; a plain law, and the law's tree.
-/
import Derived.Test.YtolmaphpfhplpaaDoorLst
namespace Go.Proofs.YtolmaphpfhplpaaDoor
open Go Go.AE Go.DE Go.RowKit

/-- A color's step, in words. -/
def sxF (v b x : Int) : Int := if b ≤ v ∧ v ≤ b + 7 then v - b else if b + 60 ≤ v ∧ v ≤ b + 67 then v - b - 52 else if v = b + 9 then -1 else x
theorem simple_in {v b : Int} (x : Int) (h0 : 0 ≤ v) (h1 : v ≤ 9223372036854775807) (hb : 0 ≤ b) (hb' : b ≤ 1000) : (if (simpleF v b).2 = true then (simpleF v b).1 else x) = sxF v b x := by
  have e : IntKind.i64.wrap (v - b) = v - b := W_in (by omega) (by omega)
  unfold simpleF sxF
  rw [e]
  by_cases h : b ≤ v ∧ v ≤ b + 7
  · rw [if_pos h, if_pos (show 0 ≤ v - b ∧ v - b ≤ 7 by omega)]
    rfl
  · rw [if_neg h, if_neg (show ¬ (0 ≤ v - b ∧ v - b ≤ 7) by omega)]
    by_cases h2 : b + 60 ≤ v ∧ v ≤ b + 67
    · rw [if_pos h2, if_pos (show 60 ≤ v - b ∧ v - b ≤ 67 by omega), if_pos rfl]
      exact W_in (by omega) (by omega)
    · rw [if_neg h2, if_neg (show ¬ (60 ≤ v - b ∧ v - b ≤ 67) by omega)]
      by_cases h3 : v = b + 9
      · rw [if_pos h3, if_pos (show v - b = 9 by omega)]
        rfl
      · rw [if_neg h3, if_neg (show ¬ v - b = 9 by omega)]
        rfl
theorem step_hi {v : Int} {a : At} (h0 : 30 ≤ v) (h1 : v ≤ 9223372036854775807) (ha : Fok a) : stepP v a = ⟨sxF v 30 a.x, sxF v 40 a.y, a.f⟩ := by
  obtain ⟨n, e, hn⟩ := ha.nat
  unfold stepP
  rw [simple_in a.x (by omega) h1 (by omega) (by omega), simple_in a.y (by omega) h1 (by omega) (by omega), e, flags_hi h0 hn]

def stepA (a : At) (v : Int) : At := if v = 0 then dfl else stepP v a
theorem run_app {B : List Int} : ∀ (A : List Int) (a : At), (∀ v ∈ A, ¬ (v = 38 ∨ v = 48)) → run (A ++ B) a = run B (A.foldl stepA a)
  | [], _, _ => rfl
  | v :: A, a, h => by
    have hA : ∀ w ∈ A, ¬ (w = 38 ∨ w = 48) := fun w hw => h w (by simp [hw])
    rw [List.cons_append, List.foldl_cons]
    by_cases h0 : v = 0
    · subst h0
      rw [run_zero, run_app A _ hA]
      rfl
    · rw [run_step _ _ h0 (h v (by simp)), run_app A _ hA, stepA, if_neg h0]
theorem nums_of {L : List Int} (hp : ∀ v ∈ L, 0 ≤ v) (hn : L ≠ []) : nums (lw L) L.length = L := by
  unfold nums
  rw [if_neg (fun h => hn (List.eq_nil_of_length_eq_zero h))]
  refine List.ext_getElem (by simp) fun i h1 h2 => ?_
  have := hp L[i] (List.getElem_mem h2)
  simp only [List.getElem_map, List.getElem_range, mx, lw, List.getD_eq_getElem?_getD, List.getElem?_eq_getElem h2, Option.getD_some]
  rw [if_neg (by omega)]
def bits (n : Nat) : List Int := bitsP n 8 0 [0]
theorem bits_all : ∀ n, n < 256 → (bits n).head? = some 0 ∧ (bits n).tail.foldl stepA dfl = ⟨-1, -1, n⟩ ∧ (bits n).all (fun v => decide (0 ≤ v ∧ v ≤ 9)) = true := by decide +kernel
def colL (c b : Int) : List Int := if c < 0 then [] else chooseL c b
theorem run_front {x y : Int} {f : Int} (hx : -1 ≤ x ∧ x ≤ 255) (hf : 0 ≤ f ∧ f ≤ 255) (B : List Int) : run (colL x 30 ++ B) ⟨-1, y, f⟩ = run B ⟨x, y, f⟩ := by
  unfold colL chooseL
  by_cases h : x < 0
  · obtain rfl : x = -1 := by omega
    rfl
  · rw [if_neg h]
    by_cases h8 : x < 8
    · rw [if_pos h8, List.singleton_append, run_step _ _ (by omega) (by omega), step_hi (v := 30 + x) (a := ⟨-1, y, f⟩) (by omega) (by omega) hf]
      unfold sxF
      rw [if_pos (by omega), if_neg (by omega), if_neg (by omega), if_neg (by omega), show 30 + x - 30 = x by omega]
    · rw [if_neg h8]
      by_cases h16 : x < 16
      · rw [if_pos h16, List.singleton_append, run_step _ _ (by omega) (by omega), step_hi (v := 30 + 52 + x) (a := ⟨-1, y, f⟩) (by omega) (by omega) hf]
        unfold sxF
        rw [if_neg (by omega), if_pos (by omega), if_neg (by omega), if_neg (by omega), if_neg (by omega), show 30 + 52 + x - 30 - 52 = x by omega]
      · have hc : colF (lw ([5, x] ++ B)) ([5, x] ++ B).length = (x, 2) := by
          unfold colF
          rw [if_pos ⟨by simp, rfl, hx.2⟩]
          rfl
        rw [if_neg h16]
        show run (38 :: ([5, x] ++ B)) _ = _
        rw [run_col _ _ (.inl rfl), hc, if_neg (show ¬ (2 : Int) = 0 by decide), colN, putC, hc]
        rfl
theorem run_back {x y : Int} {f : Int} (hy : -1 ≤ y ∧ y ≤ 255) (hf : 0 ≤ f ∧ f ≤ 255) (B : List Int) : run (colL y 40 ++ B) ⟨x, -1, f⟩ = run B ⟨x, y, f⟩ := by
  unfold colL chooseL
  by_cases h : y < 0
  · obtain rfl : y = -1 := by omega
    rfl
  · rw [if_neg h]
    by_cases h8 : y < 8
    · rw [if_pos h8, List.singleton_append, run_step _ _ (by omega) (by omega), step_hi (v := 40 + y) (a := ⟨x, -1, f⟩) (by omega) (by omega) hf]
      unfold sxF
      rw [if_neg (by omega), if_neg (by omega), if_neg (by omega), if_pos (by omega), show 40 + y - 40 = y by omega]
    · rw [if_neg h8]
      by_cases h16 : y < 16
      · rw [if_pos h16, List.singleton_append, run_step _ _ (by omega) (by omega), step_hi (v := 40 + 52 + y) (a := ⟨x, -1, f⟩) (by omega) (by omega) hf]
        unfold sxF
        rw [if_neg (by omega), if_neg (by omega), if_neg (by omega), if_neg (by omega), if_pos (by omega), show 40 + 52 + y - 40 - 52 = y by omega]
      · have hc : colF (lw ([5, y] ++ B)) ([5, y] ++ B).length = (y, 2) := by
          unfold colF
          rw [if_pos ⟨by simp, rfl, hy.2⟩]
          rfl
        rw [if_neg h16]
        show run (48 :: ([5, y] ++ B)) _ = _
        rw [run_col _ _ (.inr rfl), hc, if_neg (show ¬ (2 : Int) = 0 by decide), colN, putC, hc]
        rfl
theorem colL_pos {c b : Int} (hb : 0 ≤ b) : ∀ v ∈ colL c b, 0 ≤ v := by
  intro v hv
  unfold colL chooseL at hv
  split at hv
  · simp at hv
  · split at hv
    · simp at hv
      omega
    · split at hv
      · simp at hv
        omega
      · simp at hv
        omega
theorem round_trip {a : At} (h : a.Ok) (b : At) : applyF b (lw (paramsF a)) (paramsF a).length = a := by
  obtain ⟨n, e, hn⟩ := Ok_f h
  obtain ⟨h1, h2, h3⟩ := bits_all n hn
  have hp : paramsF a = bits n ++ colL a.x 30 ++ colL a.y 40 := by
    unfold paramsF
    rw [e]
    rfl
  have hb : ∀ v ∈ bits n, 0 ≤ v ∧ v ≤ 9 := fun v hv => of_decide_eq_true (List.all_eq_true.1 h3 v hv)
  have hall : ∀ v ∈ paramsF a, 0 ≤ v := fun v hv => by
    rw [hp, List.mem_append, List.mem_append] at hv
    rcases hv with (hv | hv) | hv
    · exact (hb v hv).1
    · exact colL_pos (by omega) v hv
    · exact colL_pos (by omega) v hv
  have hne : paramsF a ≠ [] := by
    rw [hp]
    intro h
    rw [List.append_eq_nil_iff, List.append_eq_nil_iff] at h
    rw [h.1.1] at h1
    cases h1
  rw [apply_run, nums_of hall hne, hp, List.append_assoc, run_app _ _ (fun v hv => by have := hb v hv; omega)]
  have hfold : (bits n).foldl stepA b = ⟨-1, -1, a.f⟩ := by
    cases hq : bits n with
    | nil => rw [hq] at h1; cases h1
    | cons w t =>
      rw [hq] at h1 h2
      obtain rfl : w = 0 := by simpa using h1
      rw [e]
      exact h2
  have hf : 0 ≤ a.f ∧ a.f ≤ 255 := h.2.2
  rw [hfold, run_front h.1 hf]
  have := run_back (x := a.x) h.2.1 hf []
  rw [List.append_nil] at this
  rw [this, run_nil]
theorem rt_tree (x y f x' y' f' : Int) (k : DV → Option Unit) : bodyD Tryd.prog (env lawT noLp 0) Tryd.f5 [.agg [iv x, iv y, iv f], .agg [iv x', iv y', iv f']] [] (fun d _ => k d) =
    bif chkF { x := x, y := y, f := f } != (0 : Int) then k (DV.v (Value.bool true))
    else
      bif chkF { x := x', y := y', f := f' } != (0 : Int) then k (DV.v (Value.bool true))
      else
        bif holds (x ≤ (1000000 : Int) ∧ y ≤ (1000000 : Int)) then
          bif decide ((↑(List.length (paramsF { x := x, y := y, f := f })) : Int) ≤ (15 : Int)) then
            bif
                decide
                  ((0 : Nat) + List.length (paramsF { x := x, y := y, f := f }) ≤
                    DC.n (DBlk.c (lL (paramsF { x := x, y := y, f := f })))) then
              bif
                  holds
                    (intsOk
                      (fun j f_1 => DV.v (Value.int IntKind.i64 (lw (paramsF { x := x, y := y, f := f }) ((0 : Nat) + j))))
                      (List.length (paramsF { x := x, y := y, f := f }))) then
                bif holds (List.length (paramsF { x := x, y := y, f := f }) ≤ (1000000 : Nat)) then
                  bif
                      bif
                          At.x
                              (applyF { x := x', y := y', f := f' }
                                (fun i => lw (paramsF { x := x, y := y, f := f }) ((0 : Nat) + i))
                                (List.length (paramsF { x := x, y := y, f := f }))) ==
                            x then
                        bif
                            At.y
                                (applyF { x := x', y := y', f := f' }
                                  (fun i => lw (paramsF { x := x, y := y, f := f }) ((0 : Nat) + i))
                                  (List.length (paramsF { x := x, y := y, f := f }))) ==
                              y then
                          bif
                              At.f
                                  (applyF { x := x', y := y', f := f' }
                                    (fun i => lw (paramsF { x := x, y := y, f := f }) ((0 : Nat) + i))
                                    (List.length (paramsF { x := x, y := y, f := f }))) ==
                                f then
                            true
                          else false
                        else false
                      else false then
                    k (DV.v (Value.bool true))
                  else k (DV.v (Value.bool false))
                else none
              else none
            else none
          else k (DV.v (Value.bool false))
        else none := by
  kernel_rfl
theorem chk_ne {a : At} (h : ¬ a.Ok) : (chkF a != 0) = true := by
  unfold chkF
  rw [if_neg h]
  rfl
theorem chk_eq {a : At} (h : a.Ok) : (chkF a != 0) = false := by
  unfold chkF
  rw [if_pos h]
  rfl
theorem rt_true (x y f x' y' f' : Int) : bodyD Tryd.prog (env lawT noLp 0) Tryd.f5 [.agg [iv x, iv y, iv f], .agg [iv x', iv y', iv f']] [] (fun d _ => isD (.v (.bool true)) d) = some () := by
  refine (rt_tree x y f x' y' f' _).trans ?_
  by_cases h : At.Ok ⟨x, y, f⟩
  · by_cases h' : At.Ok ⟨x', y', f'⟩
    · have h3 := params_len h
      have h4 : x ≤ 1000000 ∧ y ≤ 1000000 := by
        have := h.1.2
        have := h.2.1.2
        simp only at *
        omega
      refine cF (chk_eq h) (cF (chk_eq h') (hT h4 (dT (by omega) (dT (by simp [lL, lB, DC.n]) (hT intsOk_iv (hT (by omega) (cT ?_ (isD_of rfl))))))))
      rw [zadd, round_trip h]
      simp
    · exact cF (chk_eq h) (cT (chk_ne h') (isD_of rfl))
  · exact cT (chk_ne h) (isD_of rfl)
noncomputable def lawC2 : ConF := fun args k => match args with
  | [.agg [.v (.int .i64 _), .v (.int .i64 _), .v (.int .i64 _)], .agg [.v (.int .i64 _), .v (.int .i64 _), .v (.int .i64 _)]] => k fun _ => (.v (.bool true), [])
  | _ => none
theorem rt_ok {st : AE.Stat} (hst : CodesIn st) : ConOk Tryd.prog st 5 lawC2 := by
  refine con_flat (mg := []) (l := lawT) (lp := noLp) (n := 0) (glOk hst) (lawT_ok hst) Tryd.func5 (by kernel_rfl) (by kernel_rfl) (fun _ _ _ h => nomatch h) fun args k hk => ?_
  unfold lawC2 at hk
  split at hk <;> first | (cases hk; done) | skip
  exact ⟨_, _, .self (.self .nil), flR_clo rfl, hk, rt_true _ _ _ _ _ _⟩
end Go.Proofs.YtolmaphpfhplpaaDoor
