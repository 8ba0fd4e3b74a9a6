/-
 Functions of Go's library as the evaluator sees them: their contracts as functions on values, for strconv.Itoa, strings.Join, strings.ToLower, strings.Fields and whatever has flat arguments and a flat result.
 Conditions: the contracts of the model's calls, as the shelf lays them, are given.
-/
import Derived.Test.YtfdldnomelnbgaaGreatDoorAeFast4
import Derived.Lib.ItoaNum
import Derived.Lib.Join
import Derived.Lib.Fields
import Derived.Lib.Case
namespace Go.AE
open Go Go.RowKit

def strsA : List Value → Option (List ByteArray)
 | [] => some []
 | .string s :: r => (strsA r).map (s :: ·)
 | _ :: _ => none
theorem strsA_some : ∀ {l : List Value} {ss : List ByteArray}, strsA l = some ss → l = ss.map Value.string
 | [], ss, h => by obtain rfl := Option.some.inj h; rfl
 | v :: r, ss, h => by
  unfold strsA at h
  split at h <;> first | (cases h; done) | skip
  ·rename_i heq
   cases heq
  ·rename_i s r' heq
   cases heq
   simp only [Option.map_eq_some_iff] at h
   obtain ⟨m, hm, rfl⟩ := h
   rw [strsA_some hm]
   rfl
def joinL (ss : List ByteArray) (sep : ByteArray) : List UInt8 := Lib.join (ss.map (·.data.toList)) sep.data.toList
def keepX (g : List Value → Option Value) : List Value → RG := fun a => (g a).map (·, .keep)

section
variable {P : Program} {w0 : World} {ρ : Ren} {w w' : World} {f : FuncId}

theorem Nxt.of_below {σ : Heap} (hR : Rel w0 ρ (hp σ) w) (hb : Below w.heap.size w w') : Nxt w0 ρ σ w ρ σ w' := by
 refine ⟨Nat.le_refl _, .refl _ _ _, ⟨hb.size, fun k hk _ => hb.block k hk, fun k hk _ => hk⟩, ⟨hR.below.trans ⟨hb.os, hb.tape, hb.output, hb.size, fun k hk => hb.block k (Nat.lt_of_lt_of_le hk hR.below.size)⟩, fun id b base n e => ?_, fun id b base n blk e1 e2 => ?_, hR.inj⟩⟩
 ·have := hR.dyn id b base n e
  have := hb.size
  omega
 ·obtain ⟨o, ho, hc⟩ := hR.cont id b base n blk e1 e2
  exact ⟨o, (hb.block b (hR.dyn id b base n e1).2).trans ho, hc⟩

theorem flat_args {args args' : List Value} (hfa : args.all flat = true) (hargs : VRL ρ args args') : args' = args := by
 apply List.ext_getElem hargs.1.symm
 intro i h1 h2
 exact VR_flat (List.all_eq_true.1 hfa _ (List.getElem_mem h2)) (hargs.2 i _ _ (List.getElem?_eq_getElem h2) (List.getElem?_eq_getElem h1))

theorem keepX_app {g : List Value → Option Value} {args : List Value} {σ σ' : Heap} {v : Value} (h : RG.app σ (keepX g args) = some (v, σ')) : g args = some v ∧ σ' = σ := by
 unfold RG.app keepX at h
 simp only [Option.map_map, Option.map_eq_some_iff, Function.comp, Prod.mk.injEq] at h
 obtain ⟨u, h1, rfl, rfl⟩ := h
 exact ⟨h1, rfl⟩

theorem fnOk_keep {g : List Value → Option Value} (h : ∀ args v, g args = some v → args.all flat = true ∧ flat v = true ∧ ∀ w, Below w0.heap.size w0 w → Calls P f args.toArray w fun e w' => e = .returned v ∧ Below w.heap.size w w') :
  FnOk P w0 f (fun a σ => RG.app σ (keepX g a)) := by
 intro args σ v σ' hg
 obtain ⟨hg2, rfl⟩ := keepX_app hg
 obtain ⟨hfa, hfv, hc⟩ := h args v hg2
 refine ⟨Nat.le_refl _, fun ρ w args' hR _ hargs => ?_⟩
 obtain rfl := flat_args hfa hargs
 exact (hc w hR.below).mono fun e w' ⟨he, hb⟩ => ⟨v, he, ρ, .of_below hR hb, flat_VR ρ hfv⟩

end
end Go.AE
