/-
 Contracts of functions that are told beside the text (AE's 'ext'): flat ones, and strings.Join.
 Conditions: what is told is what the table 'ext' holds.
-/
import Derived.Test.YtfdldnomelnbgaaGreatDoorDeCon
import Derived.Test.YtfdldnomelnbgaaGreatDoorAeLib
namespace Go.DE
open Go Go.AE Go.RowKit

section
variable {P : Program} {st : AE.Stat} {f : FuncId} {fn : Func}

theorem enter_ext {vs : List Value} {σ : Heap} {r : Value × Heap} (hf : P.funcs[f]? = some fn) (hn : (fn.name == "runtime.NumGoroutine") = false) (hb : fn.body.isNone = false) (he : st.ext f vs σ = some r) : Lim (fun n m => enterA P (runF P st n m) f vs σ) r := by
 refine ⟨1, fun n m _ hm => ?_⟩
 obtain ⟨m, rfl⟩ : ∃ m', m = m' + 1 := ⟨m - 1, by omega⟩
 show enterA P (runF P st n (m + 1)) f vs σ = _
 unfold enterA
 rw [hf]
 simp only [hn, hb, Bool.false_eq_true, if_false, runF, hf, he]

theorem isV2_of2 (x : Value) : isV2 (of2 x) = true := by
 cases x
 case agg cs => exact List.all_eq_true.2 fun d hd => by obtain ⟨y, _, rfl⟩ := List.mem_map.1 hd; rfl
 all_goals rfl
theorem flR_ofV (v : Value) : flR (ofV v) = true := by
 cases v
 case agg cs => exact List.all_eq_true.2 fun d hd => by obtain ⟨y, _, rfl⟩ := List.mem_map.1 hd; rfl
 case tuple cs => exact List.all_eq_true.2 fun d hd => by obtain ⟨y, _, rfl⟩ := List.mem_map.1 hd; exact isV2_of2 y
 all_goals rfl

theorem con_ext {F : ConF} (hf : P.funcs[f]? = some fn) (hn : (fn.name == "runtime.NumGoroutine") = false) (hb : fn.body.isNone = false)
  (h : ∀ args k, F args k = some () → ∃ v, okV v = true ∧ k (fun _ => (ofV v, [])) = some () ∧ ∀ C σ vs, St st C noMu σ [] → DRL C noMu args vs → st.ext f vs σ = some (v, σ)) : ConOk P st f F := by
 intro args k hk s C σ vs hS ha
 obtain ⟨v, hv, hR, he⟩ := h args k hk
 have hlow : Low (ofV v) := (flR_clo (flR_ofV v)).2
 refine ⟨_, hR, ⟨hlow, fun id blk hb => by simp at hb⟩, v, σ, C, noMu, enter_ext hf hn hb (he C σ vs hS ha), ?_, okV_DR hv, fun id x hm => (nomatch hm), Nat.le_refl _, fun _ _ => rfl, fun b hl => ?_, fun _ _ _ _ h => .inl h⟩
 ·have : (List.replicate s none ++ ([] : DHeap)) = List.replicate s none := by simp
  refine ⟨hS.frz, fun id blk hb => ?_, fun id blk b x hb => ?_, fun id id' blk blk' b x x' hb => ?_, fun id x hm => (nomatch hm), hS.low, hS.sta⟩
  all_goals (have := (repl_get.1 hb).2; simp at this)
 ·obtain ⟨id, blk, x, hb, _⟩ := hl
  have := (repl_get.1 hb).2
  simp at this

end
end Go.DE
