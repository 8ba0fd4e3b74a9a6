/-
  Contracts of functions that are told beside the text (AE's 'ext'): flat ones, and strings.Join.
  Conditions: what is told is what the table 'ext' holds.
-/
import Derived.Test.YtabchbchopgnfaaGreatDoorDeCon
import Derived.Test.YtabchbchopgnfaaGreatDoorAeLib
namespace Go.DE
open Go Go.AE Go.RowKit

section
variable {P : Program} {st : AE.Stat} {f : FuncId} {fn : Func}

theorem enter_ext {vs : List Value} {σ : Heap} {r : Value × Heap} (hf : P.funcs[f]? = some fn) (hn : (fn.name == "runtime.NumGoroutine") = false) (hb : fn.body.isNone = false) (he : st.ext f vs σ = some r) : Lim (fun n m => enterA P (runF P st n m) f vs σ) r := by
  refine ⟨1, fun n m _ hm => ?_⟩
  obtain ⟨m, rfl⟩ : ∃ m', m = m' + 1 := ⟨m - 1, by omega⟩
  show enterA P (runF P st n (m + 1)) f vs σ = _
  unfold enterA
  rw [hf]
  simp only [hn, hb, Bool.false_eq_true, if_false, runF, hf, he]

theorem isV2_of2 (x : Value) : isV2 (of2 x) = true := by
  cases x
  case agg cs => exact List.all_eq_true.2 fun d hd => by obtain ⟨y, _, rfl⟩ := List.mem_map.1 hd; rfl
  all_goals rfl
theorem flR_ofV (v : Value) : flR (ofV v) = true := by
  cases v
  case agg cs => exact List.all_eq_true.2 fun d hd => by obtain ⟨y, _, rfl⟩ := List.mem_map.1 hd; rfl
  case tuple cs => exact List.all_eq_true.2 fun d hd => by obtain ⟨y, _, rfl⟩ := List.mem_map.1 hd; exact isV2_of2 y
  all_goals rfl

/-- A contract whose callee leaves the memory as it was and answers something flat. -/
theorem con_ext {F : ConF} (hf : P.funcs[f]? = some fn) (hn : (fn.name == "runtime.NumGoroutine") = false) (hb : fn.body.isNone = false)
    (h : ∀ args k, F args k = some () → ∃ v, okV v = true ∧ k (fun _ => (ofV v, [])) = some () ∧ ∀ C σ vs, St st C noMu σ [] → DRL C noMu args vs → st.ext f vs σ = some (v, σ)) : ConOk P st f F := by
  intro args k hk s C σ vs hS ha
  obtain ⟨v, hv, hR, he⟩ := h args k hk
  have hlow : Low (ofV v) := (flR_clo (flR_ofV v)).2
  refine ⟨_, hR, ⟨hlow, fun id blk hb => by simp at hb⟩, v, σ, C, noMu, enter_ext hf hn hb (he C σ vs hS ha), ?_, okV_DR hv, fun id x hm => (nomatch hm), Nat.le_refl _, fun _ _ => rfl, fun b hl => ?_, fun _ _ _ _ h => h⟩
  · have : (List.replicate s none ++ ([] : DHeap)) = List.replicate s none := by simp
    refine ⟨hS.frz, fun id blk hb => ?_, fun id blk b x hb => ?_, fun id id' blk blk' b x x' hb => ?_, fun id x hm => (nomatch hm), hS.low, hS.sta⟩
    all_goals (have := (repl_get.1 hb).2; simp at this)
  · obtain ⟨id, blk, x, hb, _⟩ := hl
    have := (repl_get.1 hb).2
    simp at this

/-- A contract of flat arguments. -/
def extC (g : List Value → Option Value) : ConF := fun args k => bif args.all flD then (match g (args.map valD) with
  | some v => bif okV v then k (fun _ => (ofV v, [])) else none
  | none => none) else none
theorem flD_args {C : Cf} {μ : Mu} : ∀ {args : List DV} {vs : List Value}, DRL C μ args vs → args.all flD = true → vs = args.map valD
  | [], vs, ha, _ => ha.nil_inv
  | d :: args, vs, ha, h => by
    obtain ⟨x, ys, rfl, h1, h2⟩ := ha.cons_inv
    simp only [List.all_cons, Bool.and_eq_true] at h
    rw [flD_args h2 h.2, (flD_val h1 h.1).1]
    rfl
theorem extC_ok {g : List Value → Option Value} (hf : P.funcs[f]? = some fn) (hn : (fn.name == "runtime.NumGoroutine") = false) (hb : fn.body.isNone = false)
    (he : ∀ args σ, st.ext f args σ = RG.app σ (keepX g args)) : ConOk P st f (extC g) := by
  refine con_ext hf hn hb fun args k hk => ?_
  unfold extC at hk
  obtain ⟨h1, hk⟩ := bif_none hk
  split at hk <;> first | (cases hk; done) | skip
  rename_i v hv
  obtain ⟨h2, hk⟩ := bif_none hk
  refine ⟨v, h2, hk, fun C σ vs _ ha => ?_⟩
  rw [he, flD_args ha h1]
  simp only [RG.app, keepX, hv, Option.map_some]
  rfl
end
end Go.DE
