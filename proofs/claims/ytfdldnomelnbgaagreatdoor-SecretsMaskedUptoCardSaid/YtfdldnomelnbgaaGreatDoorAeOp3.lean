/-
 Append and copy.
 Conditions: what is known of the old blocks is so (GoodSt).

 Append, copy, '==' against nil, calls; each operation of the evaluator is the model's.
 Conditions: what is known of the old blocks is so (GoodSt); the callees do what the evaluator was told of them.
-/
import Derived.Test.YtfdldnomelnbgaaGreatDoorAeApp
namespace Go.AE
open Go Go.RowKit

section
variable {P : Program} {w0 : World} {ρ : Ren} {w : World}

theorem sourceA_sound {st : Stat} {σ : Heap} {size n : Nat} {x x' : Value} {news : List Value} (hst : GoodSt w0 st) (hR : Rel w0 ρ (hp σ) w) (hx : VR ρ x x') (h : sourceA st σ size x = some (n, news)) :
  ∃ news', VRL ρ news news' ∧ (Builtin.lenOf x').run P w = .ok n w ∧ ∀ k, (Builtin.firstCells size n x').run P { w with drawn := k } = .ok news'.toArray { w with drawn := k } := by
 have go : ∀ (a a' : Addr) (len c : Nat), (len * size = 0 ∨ addrOk ρ a a') → (if len * size = 0 then some (len, []) else (loadN st σ a (len * size)).map fun l => (len, l)) = some (n, news) →
   ∃ news', VRL ρ news news' ∧ (Builtin.lenOf (.slice (some a') len c)).run P w = .ok n w ∧ ∀ k, (Builtin.firstCells size n (.slice (some a') len c)).run P { w with drawn := k } = .ok news'.toArray { w with drawn := k } := by
  intro a a' len c ha h
  by_cases h0 : len * size = 0
  ·simp only [h0, if_true, Option.some.injEq, Prod.mk.injEq] at h
   obtain ⟨rfl, rfl⟩ := h
   exact ⟨[], .nil ρ, rfl, fun k => by simp [Builtin.firstCells, h0, loadCells, loadCellsFrom]⟩
  ·simp only [h0, if_false, Option.map_eq_some_iff, Prod.mk.injEq] at h
   obtain ⟨l, hl, rfl, rfl⟩ := h
   obtain ⟨l', hn, hv, hc⟩ := loadN_sound hst hR (ha.resolve_left h0) hl
   refine ⟨l', hv, rfl, fun k => ?_⟩
   have := run_loadCells_list (P := P) { w with drawn := k } a' l' (fun j v hj => hc j v hj)
   rw [hn] at this
   exact this
 unfold sourceA at h
 split at h
 ·simp only [Option.some.injEq, Prod.mk.injEq] at h
  obtain ⟨rfl, rfl⟩ := h
  cases hx
  exact ⟨[], .nil ρ, rfl, fun k => rfl⟩
 ·rename_i a m c
  cases hx with
  | sliceX _ a' _ _ h1 h2 h3 => exact go a a' m c (h3.imp (fun e => by have : m = 0 := (by omega); simp [this]) id) h
  | sliceU _ a' _ _ cap' sz h0 h1 h2 h3 => exact go a a' m cap' (h3.imp (fun e => by have : m = 0 := (by omega); simp [this]) (·.1)) h
 ·rename_i s
  simp only [Option.some.injEq, Prod.mk.injEq] at h
  obtain ⟨rfl, rfl⟩ := h
  cases hx
  refine ⟨_, ⟨rfl, fun i v v' hv hv' => ?_⟩, rfl, fun k => ?_⟩
  ·obtain rfl := Option.some.inj (hv.symm.trans hv')
   simp only [Array.toList_map, List.getElem?_map, Option.map_eq_some_iff] at hv
   obtain ⟨b, _, rfl⟩ := hv
   exact .int _ _
  ·have e : s.extract 0 s.size = s := by simp
   simp only [Builtin.firstCells, e, Sem.run_pure, Array.toArray_toList]
 ·cases h

theorem growA_sound {st : Stat} {σ σ' : Heap} {i : TypeInfo} {e : TypeId} {base base' : Option Addr} {sLen sCap' need n : Nat} {news news' : List Value} {v : Value} (hst : GoodSt w0 st) (hR : Rel w0 ρ (hp σ) w)
  (hfr : Fresh ρ σ.length σ'.length) (hbase : match base, base' with | none, none => sLen = 0 | some a, some a' => sLen = 0 ∨ addrOk ρ a a' | _, _ => False) (hv : VRL ρ news news')
  (hneed : need = sLen + n) (hgt : sCap' < sLen + n) (hnl : news.length = n * i.size)
  (h : growA P st σ i base sLen need news = some (v, σ')) :
  ∃ v' w', (appTail i e base' sLen sCap' n news').run P w = .ok v' w' ∧ OpOut w0 ρ σ w v σ' v' w' ∧ (∃ z, i.zero = some z) ∧ (sLen + n) * i.bytes ≤ 140737488355328 ∧ i.bytes ≠ 0 ∧
   (∃ old : List Value, ∀ k, (Builtin.firstCells i.size sLen (.slice base' sLen sCap')).run P { w with drawn := k } = .ok old.toArray { w with drawn := k }) ∧
   (∃ ρ', Nxt w0 ρ σ w ρ' σ' w' ∧ VR ρ' v v' ∧ ρ.le ρ' ∧ ∃ N, ρ' σ.length = some (w.heap.size, 0, N)) ∧ (∃ l, σ' = σ ++ [some (.cells l)]) := by
 subst hneed
 unfold growA at h
 split at h
 ·rename_i hb
  cases hz : i.zero with
  | none => simp [hz] at h
  | some z =>
   simp only [hz] at h
   split at h
   ·cases h
   ·rename_i hzs
    have hzs : z.cells.size = i.size := by simpa using hzs
    split at h
    ·cases h
    ·rename_i old hold
     simp only [Option.some.injEq, Prod.mk.injEq] at h
     obtain ⟨rfl, rfl⟩ := h
     have hlo : old.length = sLen * i.size ∧ ∃ old', VRL ρ old old' ∧ ∀ k, (Builtin.firstCells i.size sLen (.slice base' sLen sCap')).run P { w with drawn := k } = .ok old'.toArray { w with drawn := k } := by
      cases base with
      | none =>
       cases base' with
       | some _ => exact hbase.elim
       | none =>
        simp only [Option.some.injEq] at hold
        subst hold
        have : sLen = 0 := hbase
        exact ⟨by simp [this], [], .nil ρ, fun k => rfl⟩
      | some a =>
       cases base' with
       | none => exact hbase.elim
       | some a' =>
        simp only at hold
        by_cases h0 : sLen * i.size = 0
        ·simp only [h0, if_true, Option.some.injEq] at hold
         subst hold
         exact ⟨by simp [h0], [], .nil ρ, fun k => by simp [Builtin.firstCells, h0, loadCells, loadCellsFrom]⟩
        ·simp only [h0, if_false] at hold
         have hbase : sLen = 0 ∨ addrOk ρ a a' := hbase
         obtain ⟨l', hn, hvl, hc⟩ := loadN_sound hst hR (hbase.resolve_left (fun e => h0 (by simp [e]))) hold
         refine ⟨by rw [hvl.1, hn], l', hvl, fun k => ?_⟩
         have := run_loadCells_list (P := P) { w with drawn := k } a' l' (fun j v hj => hc j v hj)
         rw [hn] at this
         exact this
     obtain ⟨hlen, old', hvo, hro⟩ := hlo
     have hge := grownCap_ge w (sLen + n) sCap' e
     have hlt : grownCap w (sLen + n) sCap' e < unk := by
      have := grownCap_le_maxLen w (sLen + n) sCap' e (by
       have h2 : sLen + n ≤ (sLen + n) * i.bytes := Nat.le_mul_of_pos_right _ (by omega)
       unfold maxLen; omega)
      unfold maxLen at this
      unfold unk
      omega
     have hva : VRL ρ (old ++ news) (old' ++ news') := hvo.append hv
     have hnx := newB_sound (w := { w with drawn := w.drawn + 1 }) (ty := e) (σ := σ) (l := old ++ news)
      (cs := old'.toArray ++ news'.toArray ++ Builtin.zeroCells z.cells (grownCap w (sLen + n) sCap' e - (sLen + n))) (hR.drew _) (hfr _ (Nat.le_refl _) (by simp [newB]))
      (by simp [hvo.1, hv.1])
      (fun j u hj => by
       obtain ⟨u', h1, h2⟩ := hva.get hj
       refine ⟨u', ?_, h2⟩
       have hj' : j < (old' ++ news').length := (List.getElem?_eq_some_iff.1 h1).1
       rw [Array.getElem?_append_left (by simpa using hj')]
       rw [← h1]
       simp)
     have hN : (old'.toArray ++ news'.toArray ++ Builtin.zeroCells z.cells (grownCap w (sLen + n) sCap' e - (sLen + n))).size = grownCap w (sLen + n) sCap' e * i.size := by
      have e1 : old'.length = sLen * i.size := by rw [← hvo.1, hlen]
      have e2 : news'.length = n * i.size := by rw [← hv.1, hnl]
      simp only [Array.size_append, List.size_toArray, size_zeroCells, hzs, e1, e2, ← Nat.add_mul]
      congr 1
      omega
     have hvr : VR (ρ.put σ.length (w.heap.size, 0, (old'.toArray ++ news'.toArray ++ Builtin.zeroCells z.cells (grownCap w (sLen + n) sCap' e - (sLen + n))).size))
       (.slice (some (newB σ (old ++ news)).1) (sLen + n) (unk + i.size)) (.slice (some ⟨w.heap.size, 0, none⟩) (sLen + n) (grownCap w (sLen + n) sCap' e)) := by
      have hput : (ρ.put σ.length (w.heap.size, 0, (old'.toArray ++ news'.toArray ++ Builtin.zeroCells z.cells (grownCap w (sLen + n) sCap' e - (sLen + n))).size)) σ.length = some (w.heap.size, 0, grownCap w (sLen + n) sCap' e * i.size) := by
       simp only [Ren.put, if_true]
       rw [hN]
      exact .sliceU _ _ _ _ _ i.size rfl hlt hge (.inr ⟨⟨rfl, .inr ⟨rfl, w.heap.size, 0, _, hput, rfl, rfl⟩⟩, rfl, w.heap.size, 0, _, hput, by simp [newB]⟩)
     have hfin := (Nxt.drew hnx : Nxt w0 ρ σ w _ _ _)
     refine ⟨_, _, ?_, ⟨_, hfin, hvr⟩, ⟨z, rfl⟩, hb.1, hb.2, ⟨old', hro⟩, ⟨_, hfin, hvr, Ren.le_put (hfr _ (Nat.le_refl _) (by simp [newB])), _, by simp [Ren.put]; rfl⟩, ⟨_, rfl⟩⟩
     have hng : ¬ (sLen + n ≤ sCap') := by omega
     have hr1 := hro (w.drawn + 1)
     simp only [appTail, hng, if_false, Sem.run_bind, run_choose, Question.forced, Bool.false_eq_true, Result.andThen_ok, hr1, hz, Option.map_some, Option.getD_some, newRow, run_newObj, Sem.run_pure]
     rfl
 ·cases h
end
end Go.AE

namespace Go.AE
open Go Go.RowKit

section
variable {P : Program} {w0 : World} {ρ : Ren} {w : World}

theorem hp_set_none (σ : Heap) (k id : Nat) : hp (σ.set k none) id = if id = k then none else hp σ id := by
 simp only [hp, List.getElem?_set]
 by_cases h : id = k
 ·subst h
  rw [if_pos rfl, if_pos rfl]
  by_cases hl : id < σ.length
  ·simp [hl]
  ·simp [hl]
 ·rw [if_neg (Ne.symm h), if_neg h]

theorem Nxt.kill {σ σ' : Heap} {ρ' : Ren} {w' : World} (h : Nxt w0 ρ σ w ρ' σ' w') (k : Nat) : Nxt w0 ρ σ w ρ' (σ'.set k none) w' := by
 have hle : ∀ id blk, hp (σ'.set k none) id = some blk → hp σ' id = some blk := by
  intro id blk e
  rw [hp_set_none] at e
  split at e
  ·cases e
  ·exact e
 refine ⟨by simpa using h.len, by simpa using h.ext, ⟨h.fr.size, h.fr.fr, fun b hi hb => h.fr.img b ?_ hb⟩, ⟨h.rel.below, h.rel.dyn, fun id b base n blk e1 e2 => h.rel.cont id b base n blk e1 (hle _ _ e2),
  fun i j b x y x' y' bi bj e1 e2 e3 e4 => h.rel.inj i j b x y x' y' bi bj e1 e2 (hle _ _ e3) (hle _ _ e4)⟩⟩
 obtain ⟨id, x, y, blk, e1, e2⟩ := hi
 exact ⟨id, x, y, blk, e1, hle _ _ e2⟩

theorem append_place {σ : Heap} {a a' : Addr} {sLen n cap' : Nat} {size : Nat} {old news news' : List Value} {st : Stat} (hst : GoodSt w0 st) (hR : Rel w0 ρ (hp σ) w)
  (hf : ρ σ.length = none) (ha : addrOk ρ a a') (hsp : a.spot = none) (hroom : ∃ b base N, ρ a.block = some (b, base, N) ∧ base + a.off + cap' * size ≤ N)
  (hold : if sLen * size = 0 then old = [] else loadN st σ a (sLen * size) = some old) (hv : VRL ρ news news') (hnl : news.length = n * size) (_hpos : news ≠ []) (hone : news.all Value.oneCell' = true) (hle : sLen + n ≤ cap')
  (hc1 : cap' < unk) (hal : ∃ l, hp σ a.block = some (.cells l)) :
  ∃ w', (storeCells (a'.add (sLen * size)) news').run P w = .ok () w' ∧ OpOut w0 ρ σ w (.slice (some ⟨σ.length, 0, none⟩) (sLen + n) (unk + size)) ((σ ++ [some (Blk.cells (old ++ news))]).set a.block none) (.slice (some a') (sLen + n) cap') w' := by
 obtain ⟨b, base, N, hb, hroom⟩ := hroom
 obtain ⟨l, hl⟩ := hal
 have ha2 := ha
 obtain ⟨hs', hk⟩ := ha
 obtain ⟨_, b', base', N', hb', hblk, hoff⟩ : a.spot = none ∧ ∃ b base n, ρ a.block = some (b, base, n) ∧ a'.block = b ∧ a'.off = base + a.off := by
  rcases hk with ⟨s, h1, _, _⟩ | h
  ·rw [hsp] at h1; cases h1
  ·exact h
 rw [hb] at hb'
 simp only [Option.some.injEq, Prod.mk.injEq] at hb'
 obtain ⟨rfl, rfl, rfl⟩ := hb'
 obtain ⟨o, ho, hc⟩ := hR.cont a.block b base N (.cells l) hb hl
 obtain ⟨cs, ty, fz, rfl, hfz, hsz, hbl, hcs⟩ := hc
 have hmul : (sLen + n) * size ≤ cap' * size := Nat.mul_le_mul_right _ hle
 rw [Nat.add_mul] at hmul
 have hlen' : news'.length = n * size := by rw [← hv.1, hnl]
 have hone' : ∀ v ∈ news', v.oneCell' = true := by
  intro v' hv'
  obtain ⟨i, hi⟩ := List.getElem?_of_mem hv'
  have hi' : i < news.length := by rw [hv.1]; exact (List.getElem?_eq_some_iff.1 hi).1
  exact (hv.2 i news[i] v' (List.getElem?_eq_getElem hi') hi).oneCell (List.all_eq_true.1 hone _ (List.getElem_mem hi'))
 have ea : a'.add (sLen * size) = ⟨b, base + a.off + sLen * size, none⟩ := by
  obtain ⟨h1, h2⟩ := ha2.add (sLen * size)
  rcases h2 with ⟨s, h3, _, _⟩ | ⟨_, b2, base2, N2, h3, h4, h5⟩
  ·have : a.spot = some s := h3
   rw [hsp] at this; cases this
  ·have h3' : ρ a.block = some (b2, base2, N2) := h3
   rw [hb] at h3'
   simp only [Option.some.injEq, Prod.mk.injEq] at h3'
   obtain ⟨rfl, rfl, rfl⟩ := h3'
   have h5' : (a'.add (sLen * size)).off = base + (a.off + sLen * size) := h5
   generalize a'.add (sLen * size) = y at h1 h4 h5'
   cases y
   simp_all
   omega
 have hrun := run_storeCells_fz P b (base + a.off + sLen * size) ty fz news' 0 cs w ho (by rw [hsz]; exact hfz) (by omega) hone'
 rw [← ea] at hrun
 simp only [Nat.add_zero] at hrun
 have holdlen : old.length = sLen * size ∧ ∀ j v, old[j]? = some v → ∃ v', cs[base + a.off + j]? = some v' ∧ VR ρ v v' := by
  by_cases h0 : sLen * size = 0
  ·simp only [h0, if_true] at hold
   subst hold
   exact ⟨by simp [h0], fun j v h => by simp at h⟩
  ·simp only [h0, if_false] at hold
   obtain ⟨l', hn, hvl, hcell⟩ := loadN_sound hst hR ha2 hold
   refine ⟨by rw [hvl.1, hn], fun j v hj => ?_⟩
   obtain ⟨v', h1, h2⟩ := hvl.get hj
   have h3 := hcell j v' h1
   refine ⟨v', ?_, h2⟩
   have e : a'.add j = ⟨b, base + a.off + j, none⟩ := by
    unfold Addr.add
    split
    ·rename_i hj0; subst hj0; cases a'; simp_all
    ·simp_all
   rw [e] at h3
   simpa [World.cell?, ho] using h3
 obtain ⟨hol, hoc⟩ := holdlen
 have hsl : a.block < σ.length := by
  rcases Nat.lt_or_ge a.block σ.length with h | h
  ·exact h
  ·simp [hp, List.getElem?_eq_none h] at hl
 have hle2 : ρ.le (ρ.put σ.length (b, base + a.off, N)) := Ren.le_put hf
 have hHold : ∀ id blk, hp ((σ ++ [some (Blk.cells (old ++ news))]).set a.block none) id = some blk → id ≠ a.block ∧ (id = σ.length ∧ blk = .cells (old ++ news) ∨ id ≠ σ.length ∧ hp σ id = some blk) := by
  intro id blk e
  rw [hp_set_none] at e
  split at e
  ·cases e
  ·rename_i hne
   refine ⟨hne, ?_⟩
   by_cases h : id = σ.length
   ·subst h
    rw [hp_new] at e
    exact .inl ⟨rfl, (Option.some.inj e).symm⟩
   ·rw [hp_old σ _ h] at e
    exact .inr ⟨h, e⟩
 refine ⟨_, hrun, ρ.put σ.length (b, base + a.off, N), ⟨by simp, fun id hid => ?_, ⟨by simp, ?_, ?_⟩, ⟨?_, ?_, ?_, ?_⟩⟩, ?_⟩
 ·simp at hid
  simp [Ren.put]
  omega
 ·intro k hk hi
  exact setRow_other _ _ _ _ (fun e => hi ⟨a.block, base, N, _, by rw [hb, e], hl⟩)
 ·intro k hi hk
  obtain ⟨id, x, y, blk, e1, e2⟩ := hi
  obtain ⟨hne, ⟨rfl, rfl⟩ | ⟨h1, h2⟩⟩ := hHold _ _ e2
  ·simp only [Ren.put, if_true, Option.some.injEq, Prod.mk.injEq] at e1
   exact ⟨a.block, base, N, _, by rw [hb, e1.1], hl⟩
  ·simp only [Ren.put, h1, if_false] at e1
   exact ⟨id, x, y, blk, e1, h2⟩
 ·exact hR.below.trans ⟨rfl, rfl, rfl, by simp, fun k hk => setRow_other _ _ _ _ (by have := (hR.dyn _ _ _ _ hb).1; omega)⟩
 ·intro id b2 x y e
  by_cases h : id = σ.length
  ·subst h
   simp only [Ren.put, if_true, Option.some.injEq, Prod.mk.injEq] at e
   have := hR.dyn _ _ _ _ hb
   simp
   omega
  ·simp only [Ren.put, h, if_false] at e
   simpa using hR.dyn _ _ _ _ e
 ·intro id b2 x y blk e1 e2
  obtain ⟨hne, ⟨rfl, rfl⟩ | ⟨h1, h2⟩⟩ := hHold _ _ e2
  ·simp only [Ren.put, if_true, Option.some.injEq, Prod.mk.injEq] at e1
   obtain ⟨rfl, rfl, rfl⟩ := e1
   refine ⟨_, setRow_heap _ _ _ _ _ _ ho, _, ty, fz, rfl, hfz, ?_, ?_, ?_⟩
   ·simp only [List.size_toArray, List.length_append, List.length_take, List.length_drop, Array.length_toList, hsz]; omega
   ·simp only [List.length_append]; omega
   ·intro j v hj
    have hlt : (cs.toList.take (base + a.off + sLen * size)).length = base + a.off + sLen * size := by simp; omega
    simp only [List.getElem?_toArray]
    by_cases c1 : j < old.length
    ·rw [List.getElem?_append_left c1] at hj
     obtain ⟨v', h1, h2⟩ := hoc j v hj
     refine ⟨v', ?_, h2.mono hle2⟩
     rw [List.append_assoc, List.getElem?_append_left (by omega), List.getElem?_take, if_pos (by omega)]
     simpa using h1
    ·rw [List.getElem?_append_right (by omega)] at hj
     obtain ⟨v', h1, h2⟩ := hv.get hj
     have hj2 : j - old.length < news'.length := (List.getElem?_eq_some_iff.1 h1).1
     refine ⟨v', ?_, h2.mono hle2⟩
     rw [List.append_assoc, List.getElem?_append_right (by omega), hlt, List.getElem?_append_left (by omega), ← h1]
     congr 1
     omega
  ·simp only [Ren.put, h1, if_false] at e1
   obtain ⟨o2, ho2, hc2⟩ := hR.cont id b2 x y blk e1 h2
   refine ⟨o2, ?_, hc2.mono hle2⟩
   rw [setRow_other _ _ _ _ (fun e => hne (hR.inj id a.block b x y base N blk _ (by rw [e1, e]) hb h2 hl))]
   exact ho2
 ·intro i j b2 x y x' y' bi bj e1 e2 e3 e4
  obtain ⟨hni, hi⟩ := hHold _ _ e3
  obtain ⟨hnj, hj⟩ := hHold _ _ e4
  have cross : ∀ k blk x y, ρ k = some (b, x, y) → hp σ k = some blk → k = a.block := fun k blk x y e1 e2 => hR.inj k a.block b x y base N blk _ e1 hb e2 hl
  rcases hi with ⟨rfl, rfl⟩ | ⟨h1, h2⟩
  ·rcases hj with ⟨rfl, _⟩ | ⟨h3, h4⟩
   ·rfl
   ·exfalso
    simp only [Ren.put, if_true, Option.some.injEq, Prod.mk.injEq] at e1
    simp only [Ren.put, h3, if_false] at e2
    obtain ⟨rfl, _⟩ := e1
    exact hnj (cross _ _ _ _ e2 h4)
  ·rcases hj with ⟨rfl, _⟩ | ⟨h3, h4⟩
   ·exfalso
    simp only [Ren.put, if_true, Option.some.injEq, Prod.mk.injEq] at e2
    simp only [Ren.put, h1, if_false] at e1
    obtain ⟨rfl, _⟩ := e2
    exact hni (cross _ _ _ _ e1 h2)
   ·simp only [Ren.put, h1, if_false] at e1
    simp only [Ren.put, h3, if_false] at e2
    exact hR.inj i j b2 x y x' y' bi bj e1 e2 h2 h4
 ·refine .sliceU _ _ _ _ _ size rfl hc1 hle (.inr ⟨⟨hs', .inr ⟨rfl, b, base + a.off, N, by simp [Ren.put], hblk, by simp [hoff]⟩⟩, rfl, b, base + a.off, N, by simp [Ren.put], by simpa using hroom⟩)

theorem appendA_sound {st : Stat} {σ σ' : Heap} {argTypes : Array TypeId} {ty : TypeId} {args args' : Array Value} {v : Value} (hst : GoodSt w0 st) (hR : Rel w0 ρ (hp σ) w)
  (hfr : Fresh ρ σ.length σ'.length) (hargs : VRA ρ args args') (h : appendA P st σ argTypes args = some (v, σ')) :
  ∃ v' w', (Builtin.append_ argTypes ty args').run P w = .ok v' w' ∧ OpOut w0 ρ σ w v σ' v' w' := by
 unfold appendA at h
 split at h
 ·rename_i sT xT base sLen sCap x h0 h1 h2 h3
  split at h
  ·rename_i e xd hd hx
   cases hi : P.info? e with
   | none => simp [hi] at h
   | some i =>
    simp only [hi] at h
    split at h
    ·cases h
    ·rename_i n news hsrc
     split at h
     ·cases h
     ·rename_i hchk
      simp only [ne_eq, not_or, Decidable.not_not, Bool.not_eq_false] at hchk
      obtain ⟨hnl, hone⟩ := hchk
      obtain ⟨s', hs', hsv⟩ := hargs.get h2
      obtain ⟨x', hx', hxv⟩ := hargs.get h3
      have hn : ∃ news', VRL ρ news news' ∧ ((isIntD xd = false ∧ (Builtin.lenOf x').run P w = .ok n w ∧ ∀ k, (Builtin.firstCells i.size n x').run P { w with drawn := k } = .ok news'.toArray { w with drawn := k }) ∨
        (isIntD xd = true ∧ ∃ kd m, x' = .int kd m ∧ 0 ≤ m ∧ m < 9223372036854775808 ∧ m * i.bytes ≤ 281474976710656 ∧ n = m.toNat ∧
         ((n * i.size = 0 ∧ news' = []) ∨ ∃ z, i.zero = some z ∧ n * i.size ≠ 0 ∧ news' = (Builtin.zeroCells z.cells n).toList))) := by
       by_cases hint : isIntD xd = true
       ·cases xd <;> simp [isIntD] at hint
        simp only at hsrc
        split at hsrc
        ·rename_i kd m
         split at hsrc
         ·rename_i hb
          cases hxv with
          | int _ _ =>
          by_cases hz0 : m.toNat * i.size = 0
          ·simp only [hz0, if_true, Option.some.injEq, Prod.mk.injEq] at hsrc
           obtain ⟨rfl, rfl⟩ := hsrc
           exact ⟨[], .nil ρ, .inr ⟨rfl, kd, m, rfl, hb.1, hb.2.1, hb.2.2, rfl, .inl ⟨hz0, rfl⟩⟩⟩
          ·simp only [hz0, if_false, Option.map_eq_some_iff, Prod.mk.injEq] at hsrc
           obtain ⟨z, hz, rfl, rfl⟩ := hsrc
           have hzf := (run_zeroValue (P := P) hz w).2
           have hzz : i.zero = some z := by
            unfold zeroA at hz
            simp only [hi] at hz
            cases hq : i.zero with
            | none => simp [hq] at hz
            | some z' =>
             simp only [hq] at hz
             split at hz
             ·simpa using hz
             ·cases hz
           refine ⟨_, zerosA_VRL hzf _, .inr ⟨rfl, kd, m, rfl, hb.1, hb.2.1, hb.2.2, rfl, .inr ⟨z, hzz, hz0, ?_⟩⟩⟩
           simp [zerosA, Builtin.zeroCells]
         ·cases hsrc
        ·cases hsrc
       ·have hint : isIntD xd = false := by simpa using hint
        have hsrc' : sourceA st σ i.size x = some (n, news) := by
         cases xd <;> simp [isIntD] at hint <;> exact hsrc
        obtain ⟨news', a, b, c⟩ := sourceA_sound (P := P) hst hR hxv hsrc'
        exact ⟨news', a, .inl ⟨hint, b, c⟩⟩
      obtain ⟨news', hnv, hn⟩ := hn
      by_cases hcap : sCap < unk
      ·simp only [hcap, if_true] at h
       have hbase : ∃ base', s' = .slice base' sLen sCap ∧ (match base, base' with | none, none => sLen = 0 ∧ sCap = 0 | some a, some a' => sCap = 0 ∨ addrOk ρ a a' | _, _ => False) ∧ sLen ≤ sCap := by
        cases hsv with
        | snil => exact ⟨none, rfl, ⟨rfl, rfl⟩, Nat.le_refl _⟩
        | sliceX a a' _ _ q1 q2 q3 => exact ⟨some a', rfl, q3, q2⟩
        | sliceU a a' _ _ cap' sz q0 q1 q2 q3 => omega
       obtain ⟨base', rfl, hbase, hlc⟩ := hbase
       by_cases hle : sLen + n ≤ sCap
       ·simp only [hle, if_true] at h
        have hrt := run_append_tail (w := w) (ty := ty) (z := .nilFunc) (by exact h0) (by exact h1) hs' hx' hd hx hi hn (old := []) (fun hc => by omega) (fun hc => by omega) (fun hc => by omega)
        rw [hrt]
        unfold appTail
        simp only [hle, if_true]
        cases base with
        | none =>
         cases base' with
         | some _ => exact hbase.elim
         | none =>
          obtain ⟨rfl, rfl⟩ := hbase
          simp only [Option.some.injEq, Prod.mk.injEq] at h
          obtain ⟨rfl, rfl⟩ := h
          obtain rfl : n = 0 := by omega
          exact ⟨_, w, rfl, .same hR .snil⟩
        | some a =>
         cases base' with
         | none => exact hbase.elim
         | some a' =>
          simp only at h
          by_cases hem : news = []
          ·subst hem
           obtain rfl := hnv.nil_inv
           simp only [List.isEmpty_nil, if_true, Option.some.injEq, Prod.mk.injEq] at h
           obtain ⟨rfl, rfl⟩ := h
           exact ⟨_, w, by simp [storeCells], .same hR (.sliceX a a' _ _ hcap hle hbase)⟩
          ·have hie : news.isEmpty = false := by cases news <;> simp at hem ⊢
           simp only [hie, Bool.false_eq_true, if_false, Option.map_eq_some_iff, Prod.mk.injEq] at h
           obtain ⟨σ2, hst2, rfl, rfl⟩ := h
           have hpos : 0 < n := by
            rcases Nat.eq_zero_or_pos n with h0 | h0
            ·subst h0; simp at hnl; exact absurd hnl hem
            ·exact h0
           have hb' : addrOk ρ a a' := (show sCap = 0 ∨ addrOk ρ a a' from hbase).resolve_left (by omega)
           obtain ⟨w', hr, hnx⟩ := storeN_sound hR (hb'.add (sLen * i.size)) hnv hst2
           exact ⟨_, w', by simp [hr P], ρ, hnx, .sliceX a a' _ _ hcap hle (.inr hb')⟩
       ·simp only [hle, if_false] at h
        obtain ⟨v', w', hr, ho, ⟨z, hz⟩, hb1, hb2, ⟨old, hold⟩, _⟩ := growA_sound (P := P) (e := e) (base' := base') (sCap' := sCap) (n := n) hst hR hfr
         (by cases base <;> cases base' <;> first | exact hbase.1 | exact hbase | exact (show sCap = 0 ∨ _ from hbase).imp (fun e => by omega) id) hnv rfl (by omega) hnl h
        have hrt := run_append_tail (w := w) (ty := ty) (z := z) (by exact h0) (by exact h1) hs' hx' hd hx hi hn (fun _ => hold) (fun _ => hz) (fun _ => ⟨hb1, hb2⟩)
        exact ⟨v', w', hrt.trans hr, ho⟩
      ·simp only [hcap, if_false] at h
       cases hsv with
       | snil => exact absurd hcap (by unfold unk; omega)
       | sliceX a a' _ _ q1 q2 q3 => omega
       | sliceU a a' _ _ cap' sz q0 q1 q2 q3 =>
        by_cases hn0 : n = 0
        ·simp only [hn0, if_true, Option.some.injEq, Prod.mk.injEq] at h
         obtain ⟨rfl, rfl⟩ := h
         subst hn0
         have hne : news = [] := List.eq_nil_of_length_eq_zero (by simpa using hnl)
         subst hne
         obtain rfl := hnv.nil_inv
         have hrt := run_append_tail (w := w) (ty := ty) (z := .nilFunc) (by exact h0) (by exact h1) hs' hx' hd hx hi hn (old := []) (fun hc => by omega) (fun hc => by omega) (fun hc => by omega)
         refine ⟨.slice (some a') sLen cap', w, ?_, .same hR (.sliceU a a' _ _ cap' sz q0 q1 q2 q3)⟩
         rw [hrt]
         unfold appTail
         simp [q2, storeCells]
        ·simp only [hn0, if_false] at h
         split at h
         ·cases h
         ·rename_i hcz
          obtain rfl : sz = i.size := by omega
          split at h
          ·rename_i l hsp hall
           have hal : ∃ l, hp σ a.block = some (.cells l) := ⟨l, by simp [hp, hall]⟩
           have hem : news ≠ [] := by intro e; simp [e] at h
           have hie : news.isEmpty = false := by cases news <;> simp at hem ⊢
           simp only [hie, Bool.false_eq_true, if_false] at h
           simp only [Option.map_eq_some_iff] at h
           obtain ⟨⟨v1, σ1⟩, hg, he⟩ := h
           simp only [Prod.mk.injEq] at he
           obtain ⟨rfl, rfl⟩ := he
           have hb0 : sLen = 0 ∨ addrOk ρ a a' := q3.imp (fun e => by omega) (·.1)
           have hg2 := hg
           unfold growA at hg2
           split at hg2
           ·rename_i hbb
            cases hz : i.zero with
            | none => simp [hz] at hg2
            | some z =>
             by_cases hroom : sLen + n ≤ cap'
             ·have hrt := run_append_tail (w := w) (ty := ty) (z := z) (old := []) (by exact h0) (by exact h1) hs' hx' hd hx hi hn (fun hc => by omega) (fun hc => by omega) (fun hc => by omega)
              rw [hrt]
              simp only [hz] at hg2
              split at hg2
              ·cases hg2
              ·split at hg2
               ·cases hg2
               ·rename_i old hold
                simp only [Option.some.injEq, Prod.mk.injEq] at hg2
                obtain ⟨rfl, rfl⟩ := hg2
                have hc0 : ¬ cap' = 0 := fun hc => hn0 (Nat.eq_zero_of_le_zero (Nat.le_trans (Nat.le_add_left n sLen) (Nat.le_trans hroom (Nat.le_of_eq hc))))
                obtain ⟨ha, _, hrm⟩ := q3.resolve_left hc0
                obtain ⟨w', hr, ho⟩ := append_place (P := P) (old := old) (n := n) hst hR (hfr _ (Nat.le_refl _) (by simp [newB])) ha hsp hrm (by
                 by_cases h0 : sLen * i.size = 0
                 ·simp only [h0, if_true, Option.some.injEq] at hold ⊢; exact hold.symm
                 ·simp only [h0, if_false] at hold ⊢; exact hold) hnv hnl hem hone hroom q1 hal
                refine ⟨_, w', ?_, ho⟩
                unfold appTail
                simp [hroom, hr]
             ·obtain ⟨v', w', hr, _, _, _, _, ⟨old, hold⟩, ⟨ρ', hnx, hvr, _⟩, _⟩ := growA_sound (P := P) (e := e) (base := some a) (base' := some a') (sCap' := cap') (n := n) hst hR
               (by simpa using hfr) hb0 hnv rfl (by omega) hnl hg
              have hrt := run_append_tail (w := w) (ty := ty) (z := z) (by exact h0) (by exact h1) hs' hx' hd hx hi hn (fun _ => hold) (fun _ => hz) (fun _ => hbb)
              exact ⟨v', w', hrt.trans hr, ρ', hnx.kill _, hvr⟩
           ·cases hg2
          ·cases h
  ·cases h
 ·cases h
end
end Go.AE
