/-
  Append and copy.
  Conditions: what is known of the old blocks is so (GoodSt).
-/
import Derived.Test.YtiphckeipbfbmaaGreatDoorAeApp
namespace Go.AE
open Go Go.RowKit

section
variable {P : Program} {w0 : World} {ρ : Ren} {w : World}

theorem sourceA_sound {st : Stat} {σ : Heap} {size n : Nat} {x x' : Value} {news : List Value} (hst : GoodSt w0 st) (hR : Rel w0 ρ (hp σ) w) (hx : VR ρ x x') (h : sourceA st σ size x = some (n, news)) :
    ∃ news', VRL ρ news news' ∧ (Builtin.lenOf x').run P w = .ok n w ∧ ∀ k, (Builtin.firstCells size n x').run P { w with drawn := k } = .ok news'.toArray { w with drawn := k } := by
  have go : ∀ (a a' : Addr) (len c : Nat), (len * size = 0 ∨ addrOk ρ a a') → (if len * size = 0 then some (len, []) else (loadN st σ a (len * size)).map fun l => (len, l)) = some (n, news) →
      ∃ news', VRL ρ news news' ∧ (Builtin.lenOf (.slice (some a') len c)).run P w = .ok n w ∧ ∀ k, (Builtin.firstCells size n (.slice (some a') len c)).run P { w with drawn := k } = .ok news'.toArray { w with drawn := k } := by
    intro a a' len c ha h
    by_cases h0 : len * size = 0
    · simp only [h0, if_true, Option.some.injEq, Prod.mk.injEq] at h
      obtain ⟨rfl, rfl⟩ := h
      exact ⟨[], .nil ρ, rfl, fun k => by simp [Builtin.firstCells, h0, loadCells, loadCellsFrom]⟩
    · simp only [h0, if_false, Option.map_eq_some_iff, Prod.mk.injEq] at h
      obtain ⟨l, hl, rfl, rfl⟩ := h
      obtain ⟨l', hn, hv, hc⟩ := loadN_sound hst hR (ha.resolve_left h0) hl
      refine ⟨l', hv, rfl, fun k => ?_⟩
      have := run_loadCells_list (P := P) { w with drawn := k } a' l' (fun j v hj => hc j v hj)
      rw [hn] at this
      exact this
  unfold sourceA at h
  split at h
  · simp only [Option.some.injEq, Prod.mk.injEq] at h
    obtain ⟨rfl, rfl⟩ := h
    cases hx
    exact ⟨[], .nil ρ, rfl, fun k => rfl⟩
  · rename_i a m c
    cases hx with
    | sliceX _ a' _ _ h1 h2 h3 => exact go a a' m c (h3.imp (fun e => by have : m = 0 := (by omega); simp [this]) id) h
    | sliceU _ a' _ _ cap' sz h0 h1 h2 h3 => exact go a a' m cap' (h3.imp (fun e => by have : m = 0 := (by omega); simp [this]) (·.1)) h
  · rename_i s
    simp only [Option.some.injEq, Prod.mk.injEq] at h
    obtain ⟨rfl, rfl⟩ := h
    cases hx
    refine ⟨_, ⟨rfl, fun i v v' hv hv' => ?_⟩, rfl, fun k => ?_⟩
    · obtain rfl := Option.some.inj (hv.symm.trans hv')
      simp only [Array.toList_map, List.getElem?_map, Option.map_eq_some_iff] at hv
      obtain ⟨b, _, rfl⟩ := hv
      exact .int _ _
    · have e : s.extract 0 s.size = s := by simp
      simp only [Builtin.firstCells, e, Sem.run_pure, Array.toArray_toList]
  · cases h

theorem growA_sound {st : Stat} {σ σ' : Heap} {i : TypeInfo} {e : TypeId} {base base' : Option Addr} {sLen sCap' need n : Nat} {news news' : List Value} {v : Value} (hst : GoodSt w0 st) (hR : Rel w0 ρ (hp σ) w)
    (hfr : Fresh ρ σ.length σ'.length) (hbase : match base, base' with | none, none => sLen = 0 | some a, some a' => sLen = 0 ∨ addrOk ρ a a' | _, _ => False) (hv : VRL ρ news news')
    (hneed : need = sLen + n) (hgt : sCap' < sLen + n) (hnl : news.length = n * i.size)
    (h : growA P st σ i base sLen need news = some (v, σ')) :
    ∃ v' w', (appTail i e base' sLen sCap' n news').run P w = .ok v' w' ∧ OpOut w0 ρ σ w v σ' v' w' ∧ (∃ z, i.zero = some z) ∧ (sLen + n) * i.bytes ≤ 140737488355328 ∧ i.bytes ≠ 0 ∧
      (∃ old : List Value, ∀ k, (Builtin.firstCells i.size sLen (.slice base' sLen sCap')).run P { w with drawn := k } = .ok old.toArray { w with drawn := k }) ∧
      (∃ ρ', Nxt w0 ρ σ w ρ' σ' w' ∧ VR ρ' v v' ∧ ρ.le ρ' ∧ ∃ N, ρ' σ.length = some (w.heap.size, 0, N)) ∧ (∃ l, σ' = σ ++ [some (.cells l)]) := by
  subst hneed
  unfold growA at h
  split at h
  · rename_i hb
    cases hz : i.zero with
    | none => simp [hz] at h
    | some z =>
      simp only [hz] at h
      split at h
      · cases h
      · rename_i hzs
        have hzs : z.cells.size = i.size := by simpa using hzs
        split at h
        · cases h
        · rename_i old hold
          simp only [Option.some.injEq, Prod.mk.injEq] at h
          obtain ⟨rfl, rfl⟩ := h
          have hlo : old.length = sLen * i.size ∧ ∃ old', VRL ρ old old' ∧ ∀ k, (Builtin.firstCells i.size sLen (.slice base' sLen sCap')).run P { w with drawn := k } = .ok old'.toArray { w with drawn := k } := by
            cases base with
            | none =>
              cases base' with
              | some _ => exact hbase.elim
              | none =>
                simp only [Option.some.injEq] at hold
                subst hold
                have : sLen = 0 := hbase
                exact ⟨by simp [this], [], .nil ρ, fun k => rfl⟩
            | some a =>
              cases base' with
              | none => exact hbase.elim
              | some a' =>
                simp only at hold
                by_cases h0 : sLen * i.size = 0
                · simp only [h0, if_true, Option.some.injEq] at hold
                  subst hold
                  exact ⟨by simp [h0], [], .nil ρ, fun k => by simp [Builtin.firstCells, h0, loadCells, loadCellsFrom]⟩
                · simp only [h0, if_false] at hold
                  have hbase : sLen = 0 ∨ addrOk ρ a a' := hbase
                  obtain ⟨l', hn, hvl, hc⟩ := loadN_sound hst hR (hbase.resolve_left (fun e => h0 (by simp [e]))) hold
                  refine ⟨by rw [hvl.1, hn], l', hvl, fun k => ?_⟩
                  have := run_loadCells_list (P := P) { w with drawn := k } a' l' (fun j v hj => hc j v hj)
                  rw [hn] at this
                  exact this
          obtain ⟨hlen, old', hvo, hro⟩ := hlo
          have hge := grownCap_ge w (sLen + n) sCap' e
          have hlt : grownCap w (sLen + n) sCap' e < unk := by
            have := grownCap_le_maxLen w (sLen + n) sCap' e (by
              have h2 : sLen + n ≤ (sLen + n) * i.bytes := Nat.le_mul_of_pos_right _ (by omega)
              unfold maxLen; omega)
            unfold maxLen at this
            unfold unk
            omega
          have hva : VRL ρ (old ++ news) (old' ++ news') := hvo.append hv
          have hnx := newB_sound (w := { w with drawn := w.drawn + 1 }) (ty := e) (σ := σ) (l := old ++ news)
            (cs := old'.toArray ++ news'.toArray ++ Builtin.zeroCells z.cells (grownCap w (sLen + n) sCap' e - (sLen + n))) (hR.drew _) (hfr _ (Nat.le_refl _) (by simp [newB]))
            (by simp [hvo.1, hv.1])
            (fun j u hj => by
              obtain ⟨u', h1, h2⟩ := hva.get hj
              refine ⟨u', ?_, h2⟩
              have hj' : j < (old' ++ news').length := (List.getElem?_eq_some_iff.1 h1).1
              rw [Array.getElem?_append_left (by simpa using hj')]
              rw [← h1]
              simp)
          have hN : (old'.toArray ++ news'.toArray ++ Builtin.zeroCells z.cells (grownCap w (sLen + n) sCap' e - (sLen + n))).size = grownCap w (sLen + n) sCap' e * i.size := by
            have e1 : old'.length = sLen * i.size := by rw [← hvo.1, hlen]
            have e2 : news'.length = n * i.size := by rw [← hv.1, hnl]
            simp only [Array.size_append, List.size_toArray, size_zeroCells, hzs, e1, e2, ← Nat.add_mul]
            congr 1
            omega
          have hvr : VR (ρ.put σ.length (w.heap.size, 0, (old'.toArray ++ news'.toArray ++ Builtin.zeroCells z.cells (grownCap w (sLen + n) sCap' e - (sLen + n))).size))
              (.slice (some (newB σ (old ++ news)).1) (sLen + n) (unk + i.size)) (.slice (some ⟨w.heap.size, 0, none⟩) (sLen + n) (grownCap w (sLen + n) sCap' e)) := by
            have hput : (ρ.put σ.length (w.heap.size, 0, (old'.toArray ++ news'.toArray ++ Builtin.zeroCells z.cells (grownCap w (sLen + n) sCap' e - (sLen + n))).size)) σ.length = some (w.heap.size, 0, grownCap w (sLen + n) sCap' e * i.size) := by
              simp only [Ren.put, if_true]
              rw [hN]
            exact .sliceU _ _ _ _ _ i.size rfl hlt hge (.inr ⟨⟨rfl, .inr ⟨rfl, w.heap.size, 0, _, hput, rfl, rfl⟩⟩, rfl, w.heap.size, 0, _, hput, by simp [newB]⟩)
          have hfin := (Nxt.drew hnx : Nxt w0 ρ σ w _ _ _)
          refine ⟨_, _, ?_, ⟨_, hfin, hvr⟩, ⟨z, rfl⟩, hb.1, hb.2, ⟨old', hro⟩, ⟨_, hfin, hvr, Ren.le_put (hfr _ (Nat.le_refl _) (by simp [newB])), _, by simp [Ren.put]; rfl⟩, ⟨_, rfl⟩⟩
          have hng : ¬ (sLen + n ≤ sCap') := by omega
          have hr1 := hro (w.drawn + 1)
          simp only [appTail, hng, if_false, Sem.run_bind, run_choose, Question.forced, Bool.false_eq_true, Result.andThen_ok, hr1, hz, Option.map_some, Option.getD_some, newRow, run_newObj, Sem.run_pure]
          rfl
  · cases h
end
end Go.AE
