/-
 The model's append, once the new elements are known.
 Conditions: the bounds on the new length, given as hypotheses.
-/
import Derived.Test.YtfdldnomelnbgaaGreatDoorAeOp
import Derived.Laws.AppendOwn
namespace Go.AE
open Go Go.RowKit

section
variable {P : Program} {w : World}

def isIntD : TypeDesc → Bool
 | .int _ => true
 | _ => false

def appTail (i : TypeInfo) (e : TypeId) (base : Option Addr) (sLen sCap n : Nat) (news : List Value) : Sem Value := do
 if sLen + n ≤ sCap then
  if let some a := base then storeCells (a.add (sLen * i.size)) news
  pure (.slice base (sLen + n) sCap)
 else
  let newCap ← choose (.appendCap (sLen + n) sCap e)
  let old ← Builtin.firstCells i.size sLen (.slice base sLen sCap)
  pure (.slice (some (← newRow e (old ++ news.toArray ++ Builtin.zeroCells ((i.zero.map (·.cells)).getD #[]) (newCap - (sLen + n))))) (sLen + n) newCap)

set_option maxHeartbeats 4000000 in
theorem run_append_tail {argTypes : Array TypeId} {ty sT xT e : TypeId} {xd : TypeDesc} {args : Array Value} {base : Option Addr} {sLen sCap n : Nat} {x z : Value} {i : TypeInfo} {news old : List Value}
  (h0 : argTypes[0]? = some sT) (h1 : argTypes[1]? = some xT) (h2 : args[0]? = some (.slice base sLen sCap)) (h3 : args[1]? = some x)
  (hd : P.underlying sT = some (.slice e)) (hx : P.underlying xT = some xd) (hi : P.info? e = some i)
  (hn : (isIntD xd = false ∧ (Builtin.lenOf x).run P w = .ok n w ∧ ∀ k, (Builtin.firstCells i.size n x).run P { w with drawn := k } = .ok news.toArray { w with drawn := k }) ∨
   (isIntD xd = true ∧ ∃ kd m, x = .int kd m ∧ 0 ≤ m ∧ m < 9223372036854775808 ∧ m * i.bytes ≤ 281474976710656 ∧ n = m.toNat ∧
    ((n * i.size = 0 ∧ news = []) ∨ ∃ z, i.zero = some z ∧ n * i.size ≠ 0 ∧ news = (Builtin.zeroCells z.cells n).toList)))
  (hold : sCap < sLen + n → ∀ k, (Builtin.firstCells i.size sLen (.slice base sLen sCap)).run P { w with drawn := k } = .ok old.toArray { w with drawn := k })
  (hz : sCap < sLen + n → i.zero = some z) (hb : sCap < sLen + n → (sLen + n) * i.bytes ≤ 140737488355328 ∧ i.bytes ≠ 0) :
  (Builtin.append_ argTypes ty args).run P w = (appTail i e base sLen sCap n news).run P w := by
 have hgrow : sCap < sLen + n → ¬ (9223372036854775807 < ((sLen : Int) + (n : Int))) ∧ ¬ (281474976710656 < Builtin.nextslicecap (sLen + n) sCap * i.bytes) := by
  intro h
  obtain ⟨hb1, hb2⟩ := hb h
  have h1 := growslice_fits h hb1
  have h2 : sLen + n ≤ (sLen + n) * i.bytes := Nat.le_mul_of_pos_right _ (by omega)
  exact ⟨by omega, by omega⟩
 rcases hn with ⟨hint, hlen, hcells⟩ | ⟨hint, kd, m, rfl, hm0, hm1, hm2, rfl, hnews⟩
 ·have hc0 := hcells w.drawn
  cases xd
  case int => simp [isIntD] at hint
  all_goals
   by_cases hle : sLen + n ≤ sCap
   ·cases base <;> simp [Builtin.append_, appTail, h0, h1, h2, h3, run_underlying hd, run_underlying hx, sizeOf, typeInfo, hi, hlen, hle, hc0]
   ·obtain ⟨g1, g2⟩ := hgrow (by omega)
    have q1 : (Builtin.firstCells i.size n x).run P w.drew = .ok news.toArray w.drew := hcells (w.drawn + 1)
    have q2 : (Builtin.firstCells i.size sLen (.slice base sLen sCap)).run P w.drew = .ok old.toArray w.drew := hold (by omega) (w.drawn + 1)
    simp [Builtin.append_, appTail, h0, h1, h2, h3, run_underlying hd, run_underlying hx, sizeOf, typeInfo, hi, hlen, hle, g1, g2, Question.forced, zeroValue, hz (by omega), q1, q2]
 ·cases xd <;> simp [isIntD] at hint
  have hwr : IntKind.i64.wrap m = m := by rw [IntKind.wrap_i64]; omega
  have n1 : ¬ m < 0 := by omega
  have n2 : ¬ (281474976710656 < m * (i.bytes : Int)) := by omega
  by_cases hle : sLen + m.toNat ≤ sCap
  ·rcases hnews with ⟨hn0, rfl⟩ | ⟨z', hz', hn0, rfl⟩
   ·cases base <;> simp [Builtin.append_, appTail, h0, h1, h2, h3, run_underlying hd, run_underlying hx, sizeOf, typeInfo, hi, asInt, asIntOf, hwr, n1, n2, hle, hn0]
   ·cases base <;> simp [Builtin.append_, appTail, h0, h1, h2, h3, run_underlying hd, run_underlying hx, sizeOf, typeInfo, hi, asInt, asIntOf, hwr, n1, n2, hle, hn0, zeroValue, hz']
  ·obtain ⟨g1, g2⟩ := hgrow (by omega)
   have g1' : ¬ (9223372036854775807 < (sLen : Int) + max m 0) := by omega
   rcases hnews with ⟨hn0, rfl⟩ | ⟨z', hz', hn0, rfl⟩
   ·simp [Builtin.append_, appTail, h0, h1, h2, h3, run_underlying hd, run_underlying hx, sizeOf, typeInfo, hi, asInt, asIntOf, hwr, n1, n2, hle, hn0, g1', g2, Question.forced, zeroValue, hz (by omega)]
   ·simp [Builtin.append_, appTail, h0, h1, h2, h3, run_underlying hd, run_underlying hx, sizeOf, typeInfo, hi, asInt, asIntOf, hwr, n1, n2, hle, hn0, g1', g2, Question.forced, zeroValue, hz']

end
end Go.AE
