/-
  The contracts of Right, Check, Style, and of the package's own examples (awake).
  Condition: the package-level table 'codes' holds its eight numbers (CodesIn).
-/
import Derived.Test.YtolmaphpfhplpaaDoorPar
namespace Go.Proofs.YtolmaphpfhplpaaDoor
open Go Go.AE Go.DE Go.RowKit

noncomputable def inl0 (fn : Func) : ConF := inl Tryd.prog (env [] noLp 0) fn
theorem inl0_ok {st : AE.Stat} (hst : CodesIn st) {f : FuncId} {fn : Func} (hf : Tryd.prog.funcs[f]? = some fn) (hn : (fn.name == "runtime.NumGoroutine") = false) (hb : fn.body.isNone = false) : ConOk Tryd.prog st f (inl0 fn) :=
  inl_ok hf hn hb (glOk hst) (tblD_env (l := []) (fun _ h => nomatch h)) (fun _ _ _ h => nomatch h)
noncomputable abbrev awL : List (FuncId × ConF) := [(13, applyC), (16, sameC), (17, paramsC), (19, inl0 Tryd.f19), (21, dflC)]
theorem aw_tree (k : DV → Option Unit) : bodyD Tryd.prog (env awL noLp 0) Tryd.f12 [] [] (fun d _ => k d) =
    bif
        holds
          (intsOk
            (fun j f =>
              lend1
                (DC.get
                  (DBlk.c
                    (blockOf (1 : Nat)
                      [DV.v (Value.int IntKind.i64 (1 : Int)), DV.v (Value.int IntKind.i64 (38 : Int)),
                        DV.v (Value.int IntKind.i64 (5 : Int)), DV.v (Value.int IntKind.i64 (200 : Int)),
                        DV.v (Value.int IntKind.i64 (4 : Int))]))
                  ((0 : Nat) + j) f))
            (5 : Nat)) then
      bif holds ((5 : Nat) ≤ (1000000 : Nat)) then
        bif
            holds
              (intsOk
                (fun j f =>
                  lend1
                    (DC.get
                      (DBlk.c
                        (blockOf (1 : Nat)
                          [DV.v (Value.int IntKind.i64 (31 : Int)), DV.v (Value.int IntKind.i64 (38 : Int)),
                            DV.v (Value.int IntKind.i64 (5 : Int))]))
                      ((0 : Nat) + j) f))
                (3 : Nat)) then
          bif holds ((3 : Nat) ≤ (1000000 : Nat)) then
            bif holds ((200 : Int) ≤ (1000000 : Int) ∧ (-1 : Int) ≤ (1000000 : Int)) then
              bif
                  holds
                    (intsOk
                      (fun j f =>
                        DV.v
                          (Value.int IntKind.i64
                            (lw (paramsF { x := (200 : Int), y := (-1 : Int), f := (9 : Int) }) ((0 : Nat) + j))))
                      (6 : Nat)) then
                bif
                    holds
                      (intsOk
                        (fun j f =>
                          lend1
                            (DC.get
                              (DBlk.c
                                (blockOf (1 : Nat)
                                  [DV.v (Value.int IntKind.i64 (0 : Int)), DV.v (Value.int IntKind.i64 (1 : Int)),
                                    DV.v (Value.int IntKind.i64 (4 : Int)), DV.v (Value.int IntKind.i64 (38 : Int)),
                                    DV.v (Value.int IntKind.i64 (5 : Int)), DV.v (Value.int IntKind.i64 (200 : Int))]))
                              ((0 : Nat) + j) f))
                        (6 : Nat)) then
                  bif holds ((6 : Nat) ≤ (1000100 : Nat)) then
                    k
                      (DV.v
                        (Value.bool
                          (bif (1 : Int) == (1 : Int) then
                            bif (-1 : Int) == (-1 : Int) then (0 : Int) == (0 : Int) else false
                          else false)))
                  else none
                else none
              else none
            else none
          else none
        else none
      else none
    else none := by
  kernel_rfl

theorem intsOk3 {g : Nat → Nat → DV} (h : g 0 0 = iv (num (g 0 0)) ∧ g 1 0 = iv (num (g 1 0)) ∧ g 2 0 = iv (num (g 2 0))) : intsOk g 3 := fun i hi => by
  have : i = 0 ∨ i = 1 ∨ i = 2 := by omega
  rcases this with rfl | rfl | rfl
  · exact h.1
  · exact h.2.1
  · exact h.2.2
theorem intsOk5 {g : Nat → Nat → DV} (h : g 0 0 = iv (num (g 0 0)) ∧ g 1 0 = iv (num (g 1 0)) ∧ g 2 0 = iv (num (g 2 0)) ∧ g 3 0 = iv (num (g 3 0)) ∧ g 4 0 = iv (num (g 4 0))) : intsOk g 5 := fun i hi => by
  have : i = 0 ∨ i = 1 ∨ i = 2 ∨ i = 3 ∨ i = 4 := by omega
  rcases this with rfl | rfl | rfl | rfl | rfl
  · exact h.1
  · exact h.2.1
  · exact h.2.2.1
  · exact h.2.2.2.1
  · exact h.2.2.2.2
theorem intsOk6 {g : Nat → Nat → DV} (h : g 0 0 = iv (num (g 0 0)) ∧ g 1 0 = iv (num (g 1 0)) ∧ g 2 0 = iv (num (g 2 0)) ∧ g 3 0 = iv (num (g 3 0)) ∧ g 4 0 = iv (num (g 4 0)) ∧ g 5 0 = iv (num (g 5 0))) : intsOk g 6 := fun i hi => by
  have : i = 0 ∨ i = 1 ∨ i = 2 ∨ i = 3 ∨ i = 4 ∨ i = 5 := by omega
  rcases this with rfl | rfl | rfl | rfl | rfl | rfl
  · exact h.1
  · exact h.2.1
  · exact h.2.2.1
  · exact h.2.2.2.1
  · exact h.2.2.2.2.1
  · exact h.2.2.2.2.2
noncomputable def awC : ConF := fun args k => match args with
  | [] => k fun _ => (.v (.bool true), [])
  | _ => none
theorem aw_ok {st : AE.Stat} (hst : CodesIn st) : ConOk Tryd.prog st 12 awC := by
  refine con_flat (mg := []) (l := awL) (lp := noLp) (n := 0) (glOk hst) (fun x hx => ?_) Tryd.func12 (by kernel_rfl) (by kernel_rfl) (fun _ _ _ h => nomatch h) fun args k hk => ?_
  · simp only [awL, List.mem_cons, List.not_mem_nil, or_false] at hx
    rcases hx with rfl | rfl | rfl | rfl | rfl
    · exact apply_ok hst
    · exact same_ok hst
    · exact params_ok hst
    · exact inl0_ok hst Tryd.func19 (by kernel_rfl) (by kernel_rfl)
    · exact dfl21 hst
  · unfold awC at hk
    split at hk <;> first | (cases hk; done) | skip
    refine ⟨[], _, .nil, flR_clo rfl, hk, (aw_tree _).trans ?_⟩
    refine hT (intsOk5 ⟨rfl, rfl, rfl, rfl, rfl⟩) (hT (by decide) (hT (intsOk3 ⟨rfl, rfl, rfl⟩) (hT (by decide) (hT (by decide) (hT (fun _ _ => rfl) (hT (intsOk6 ⟨rfl, rfl, rfl, rfl, rfl, rfl⟩) (hT (by decide) ?_)))))))
    exact isD_of rfl
end Go.Proofs.YtolmaphpfhplpaaDoor
