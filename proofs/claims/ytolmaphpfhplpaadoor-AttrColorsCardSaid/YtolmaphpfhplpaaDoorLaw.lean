/-
  What the laws of attr lean on: contracts of Check, Right, Style; the table of all contracts.
  Condition: the package-level table 'codes' holds its eight numbers (CodesIn).
-/
import Derived.Test.YtolmaphpfhplpaaDoorAw
namespace Go.Proofs.YtolmaphpfhplpaaDoor
open Go Go.AE Go.DE Go.RowKit

/-- A proper attribute. -/
def At.Ok (a : At) : Prop := (-1 ≤ a.x ∧ a.x ≤ 255) ∧ (-1 ≤ a.y ∧ a.y ≤ 255) ∧ 0 ≤ a.f ∧ a.f ≤ 255
instance (a : At) : Decidable a.Ok := by unfold At.Ok; infer_instance
noncomputable def onAt (g : At → Int) : ConF := fun args k => match args with
  | [.agg [.v (.int .i64 x), .v (.int .i64 y), .v (.int .i64 f)]] => k fun _ => (iv (g ⟨x, y, f⟩), [])
  | _ => none
def rangeT (x y f : Int) (u v : Option Unit) : Option Unit :=
  bif decide (x < -1) then u else bif decide (x > 255) then u else bif decide (y < -1) then u else bif decide (y > 255) then u else bif decide (f < 0) then u else bif decide (f > 255) then u else v
theorem rangeT_eq (x y f : Int) (u v : Option Unit) : rangeT x y f u v = if At.Ok ⟨x, y, f⟩ then v else u := by
  have h0 : (x < -1 ∨ x > 255 ∨ y < -1 ∨ y > 255 ∨ f < 0 ∨ f > 255) ∨ ((-1 ≤ x ∧ x ≤ 255) ∧ (-1 ≤ y ∧ y ≤ 255) ∧ 0 ≤ f ∧ f ≤ 255) := by omega
  simp only [rangeT, Bool.cond_decide]
  rcases h0 with h | h
  · rw [if_neg (show ¬ At.Ok ⟨x, y, f⟩ by rintro ⟨⟨h1, h2⟩, ⟨h3, h4⟩, h5, h6⟩; simp only at h1 h2 h3 h4 h5 h6; omega)]
    repeat' split
    all_goals first | rfl | (exfalso; omega)
  · rw [if_pos (show At.Ok ⟨x, y, f⟩ from h)]
    rw [if_neg (by omega), if_neg (by omega), if_neg (by omega), if_neg (by omega), if_neg (by omega), if_neg (by omega)]
theorem chk_tree (x y f : Int) (k : DV → Option Unit) : bodyD Tryd.prog (env [] noLp 10) Tryd.f15 [.agg [iv x, iv y, iv f]] [] (fun d _ => k d) = rangeT x y f (k (iv 2)) (k (iv 0)) := by kernel_rfl
theorem right_tree (x y f : Int) (k : DV → Option Unit) : bodyD Tryd.prog (env [] noLp 10) Tryd.f11 [.agg [iv x, iv y, iv f]] [] (fun d _ => k d) = rangeT x y f (k (iv 0)) (k (iv 1)) := by kernel_rfl
def chkF (a : At) : Int := if a.Ok then 0 else 2
def rightF (a : At) : Int := if a.Ok then 1 else 0
def styF (a : At) : Int := if bandF a.f 64 ≠ 0 then 3 else if bandF a.f 32 ≠ 0 then 2 else if bandF a.f 29 ≠ 0 then 1 else 0
def styT (f : Int) (k : DV → Option Unit) : Option Unit := bif bandF f 64 != 0 then k (iv 3) else bif bandF f 32 != 0 then k (iv 2) else bif bandF f 29 != 0 then k (iv 1) else k (iv 0)
theorem sty_tree (x y f : Int) (k : DV → Option Unit) : bodyD Tryd.prog (env [] noLp 10) Tryd.f19 [.agg [iv x, iv y, iv f]] [] (fun d _ => k d) = styT f k := by kernel_rfl
theorem rsty_tree (x y f : Int) (k : DV → Option Unit) : bodyD Tryd.prog (env [] noLp 10) Tryd.f20 [.agg [iv x, iv y, iv f]] [] (fun d _ => k d) = styT f k := by kernel_rfl
theorem styT_eq (a : At) : styT a.f (isD (iv (styF a))) = some () := by
  unfold styT
  refine cS (fun h1 => isD_of ?_) fun h1 => cS (fun h2 => isD_of ?_) fun h2 => cS (fun h3 => isD_of ?_) fun h3 => isD_of ?_
  · rw [styF, if_pos (by simpa using h1)]
  · rw [styF, if_neg (by simpa using h1), if_pos (by simpa using h2)]
  · rw [styF, if_neg (by simpa using h1), if_neg (by simpa using h2), if_pos (by simpa using h3)]
  · rw [styF, if_neg (by simpa using h1), if_neg (by simpa using h2), if_neg (by simpa using h3)]
theorem onAt_ok {st : AE.Stat} (hst : CodesIn st) {f : FuncId} {fn : Func} (g : At → Int) (hf : Tryd.prog.funcs[f]? = some fn) (hn : (fn.name == "runtime.NumGoroutine") = false) (hb : fn.body.isNone = false)
    (h : ∀ x y z : Int, bodyD Tryd.prog (env [] noLp 10) fn [.agg [iv x, iv y, iv z]] [] (fun d _ => isD (iv (g ⟨x, y, z⟩)) d) = some ()) : ConOk Tryd.prog st f (onAt g) := by
  refine con_flat (mg := []) (l := []) (lp := noLp) (n := 10) (glOk hst) (fun _ h => nomatch h) hf hn hb (fun _ _ _ h => nomatch h) fun args k hk => ?_
  unfold onAt at hk
  split at hk <;> first | (cases hk; done) | skip
  exact ⟨_, _, .self .nil, flR_clo rfl, hk, h _ _ _⟩
theorem chk_ok {st : AE.Stat} (hst : CodesIn st) : ConOk Tryd.prog st 15 (onAt chkF) :=
  onAt_ok hst chkF Tryd.func15 (by kernel_rfl) (by kernel_rfl) fun x y f => (chk_tree x y f _).trans <| (rangeT_eq ..).trans (by unfold chkF; split <;> exact isD_of rfl)
theorem right_ok {st : AE.Stat} (hst : CodesIn st) : ConOk Tryd.prog st 11 (onAt rightF) :=
  onAt_ok hst rightF Tryd.func11 (by kernel_rfl) (by kernel_rfl) fun x y f => (right_tree x y f _).trans <| (rangeT_eq ..).trans (by unfold rightF; split <;> exact isD_of rfl)
theorem sty_ok {st : AE.Stat} (hst : CodesIn st) : ConOk Tryd.prog st 19 (onAt styF) :=
  onAt_ok hst styF Tryd.func19 (by kernel_rfl) (by kernel_rfl) fun x y f => (sty_tree x y f _).trans (styT_eq ⟨x, y, f⟩)
theorem rsty_ok {st : AE.Stat} (hst : CodesIn st) : ConOk Tryd.prog st 20 (onAt styF) :=
  onAt_ok hst styF Tryd.func20 (by kernel_rfl) (by kernel_rfl) fun x y f => (rsty_tree x y f _).trans (styT_eq ⟨x, y, f⟩)

noncomputable abbrev lawT : List (FuncId × ConF) := [(11, onAt rightF), (12, awC), (13, applyC), (14, rapplyC), (15, onAt chkF), (16, sameC), (17, paramsC), (18, rparamsC), (19, onAt styF), (20, onAt styF), (21, dflC), (22, dflC)]
theorem lawT_ok {st : AE.Stat} (hst : CodesIn st) : ∀ x ∈ lawT, ConOk Tryd.prog st x.1 x.2 := fun x hx => by
  simp only [lawT, List.mem_cons, List.not_mem_nil, or_false] at hx
  rcases hx with rfl | rfl | rfl | rfl | rfl | rfl | rfl | rfl | rfl | rfl | rfl | rfl
  · exact right_ok hst
  · exact aw_ok hst
  · exact apply_ok hst
  · exact rapply_ok hst
  · exact chk_ok hst
  · exact same_ok hst
  · exact params_ok hst
  · exact rparams_ok hst
  · exact sty_ok hst
  · exact rsty_ok hst
  · exact dfl21 hst
  · exact dfl22 hst
end Go.Proofs.YtolmaphpfhplpaaDoor
