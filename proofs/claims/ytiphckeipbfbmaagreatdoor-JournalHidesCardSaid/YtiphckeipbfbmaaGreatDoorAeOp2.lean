/-
  The operations that make memory: literals, make, append, copy; and the calls.
  Conditions: what is known of the old blocks is so (GoodSt); the callees do what the evaluator was told of them.
-/
import Derived.Test.YtiphckeipbfbmaaGreatDoorAeOp
import Derived.Laws.MakeOwn
namespace Go.AE
open Go Go.RowKit

section
variable {P : Program} {w0 : World} {ρ : Ren} {w : World}

theorem VRA.set {x x' : Array Value} (h : VRA ρ x x') (i : Nat) {v v' : Value} (hv : VR ρ v v') : VRA ρ (x.setIfInBounds i v) (x'.setIfInBounds i v') := by
  refine ⟨by simp [h.1], fun k u u' hu hu' => ?_⟩
  rw [Array.getElem?_setIfInBounds] at hu hu'
  by_cases hk : i = k
  · subst hk
    by_cases hi : i < x.size
    · have hi' : i < x'.size := by rw [← h.1]; exact hi
      simp [hi] at hu
      simp [hi'] at hu'
      subst hu; subst hu'
      exact hv
    · simp [hi] at hu
  · rw [if_neg hk] at hu hu'
    exact h.2 k u u' hu hu'

theorem fill_step (off : Nat) : ∀ (l l' : List Value) (k : Nat) (x x' : Array Value), VRL ρ l l' → VRA ρ x x' →
    VRA ρ ((l.zipIdx k).foldl (fun (cs : Array Value) (c, j) => cs.setIfInBounds (off + j) c) x) ((l'.zipIdx k).foldl (fun (cs : Array Value) (c, j) => cs.setIfInBounds (off + j) c) x')
  | [], l', k, x, x', hl, hx => by rw [hl.nil_inv]; exact hx
  | v :: l, l', k, x, x', hl, hx => by
    obtain ⟨v', m, rfl, hv, hm⟩ := hl.cons_inv
    simp only [List.zipIdx_cons, List.foldl_cons]
    exact fill_step off l m (k + 1) _ _ hm (hx.set _ hv)

def PartsR (ρ : Ren) : List (Nat × Value) → List (Nat × Value) → Prop
  | [], [] => True
  | (i, v) :: r, (j, u) :: s => i = j ∧ VR ρ v u ∧ PartsR ρ r s
  | _, _ => False

theorem fill_sound (place : Nat → Option (Nat × Nat)) : ∀ (ps ps' : List (Nat × Value)) (x x' out : Array Value), PartsR ρ ps ps' → VRA ρ x x' → Instr.fill place x ps = some out →
    ∃ out', Instr.fill place x' ps' = some out' ∧ VRA ρ out out'
  | [], [], x, x', out, _, hx, h => by
    simp only [Instr.fill, Option.some.injEq] at h ⊢
    subst h
    exact ⟨x', rfl, hx⟩
  | [], _ :: _, _, _, _, hp, _, _ => hp.elim
  | _ :: _, [], _, _, _, hp, _, _ => hp.elim
  | (i, v) :: r, (j, u) :: s, x, x', out, hp, hx, h => by
    obtain ⟨rfl, hv, hr⟩ := hp
    simp only [Instr.fill] at h ⊢
    cases hpl : place i with
    | none => simp [hpl] at h
    | some os =>
      obtain ⟨off, size⟩ := os
      simp only [hpl] at h ⊢
      have hc := hv.cells_any
      have hsz : u.cells.size = v.cells.size := by have := hc.1; simp at this; omega
      rw [hsz, ← hx.1]
      split at h
      · cases h
      · rename_i hn
        rw [if_neg hn]
        refine fill_sound place r s _ _ out hr ?_ h
        have e : ∀ (a : Array Value), a.zipIdx.foldl (fun (cs : Array Value) (c, j) => cs.setIfInBounds (off + j) c) = fun x => (a.toList.zipIdx 0).foldl (fun (cs : Array Value) (c, j) => cs.setIfInBounds (off + j) c) x := by
          intro a; funext x
          rw [← Array.foldl_toList]
          simp
        have := fill_step off v.cells.toList u.cells.toList 0 x x' hc hx
        rw [← Array.foldl_toList, ← Array.foldl_toList]
        simpa using this

theorem run_places (g : Field → Option Nat) (hg : ∀ f n, g f = some n → ∀ w, (sizeOf f.type).run P w = .ok n w) : ∀ (fs : List Field) (ps : List (Nat × Nat)) (w : World),
    fs.mapM (fun f => (g f).map fun n => (f.offset, n)) = some ps → (fs.mapM (fun f => do pure (f.offset, ← sizeOf f.type)) : Sem _).run P w = .ok ps w
  | [], ps, w, h => by
    simp only [List.mapM_nil] at h ⊢
    cases h
    rfl
  | f :: fs, ps, w, h => by
    simp only [List.mapM_cons] at h ⊢
    cases hf : g f with
    | none => simp [hf] at h
    | some n =>
      cases hr : fs.mapM (fun f => (g f).map fun n => (f.offset, n)) with
      | none => simp [hf, hr] at h
      | some r =>
        simp [hf, hr] at h
        subst h
        have ih := run_places g hg fs r w hr
        simp only [Sem.run_bind, hg f n hf w, Result.andThen_ok, Sem.run_pure, ih]

theorem zeroA_cells {z : Value} (hf : flat z = true) : VRA ρ z.cells z.cells := .of_list (flat_VR ρ hf).cells_any

theorem buildA_sound {t : TypeId} {ps ps' : Array (Nat × Value)} {v : Value} (hp : PartsR ρ ps.toList ps'.toList) (h : buildA P t ps.toList = some v) (w : World) :
    ∃ v', (Instr.build t ps').run P w = .ok v' w ∧ VR ρ v v' := by
  unfold buildA at h
  cases hz : zeroA P t with
  | none => simp [hz] at h
  | some z =>
    simp only [hz] at h
    obtain ⟨hzr, hzf⟩ := run_zeroValue hz w
    have hzc : VRA ρ z.cells z.cells := zeroA_cells hzf
    unfold Instr.build
    simp only [Sem.run_bind, hzr, Result.andThen_ok]
    cases hd : P.underlying t with
    | none => simp [hd] at h
    | some d =>
      simp only [hd] at h
      simp only [run_underlying hd, Result.andThen_ok]
      cases d <;> simp only at h <;> try cases h
      case array n e =>
        cases hs : sizeA P e with
        | none => simp [hs] at h
        | some size =>
          simp only [hs, Option.map_eq_some_iff] at h
          obtain ⟨cs, hcs, rfl⟩ := h
          obtain ⟨cs', hcs', hv⟩ := fill_sound _ _ _ _ _ _ hp hzc hcs
          exact ⟨.agg cs', by simp [run_sizeOf' hs, hcs'], .agg' hv⟩
      case struct fields =>
        cases hm : fields.toList.mapM (fun f => (sizeA P f.type).map fun n => (f.offset, n)) with
        | none => simp [hm] at h
        | some places =>
          simp only [hm, Option.map_eq_some_iff] at h
          obtain ⟨cs, hcs, rfl⟩ := h
          obtain ⟨cs', hcs', hv⟩ := fill_sound _ _ _ _ _ _ hp hzc hcs
          have hrun := run_places (P := P) (fun f => sizeA P f.type) (fun f n hn w => run_sizeOf' hn w) _ _ w hm
          refine ⟨.agg cs', ?_, .agg' hv⟩
          have e : (fields.mapM (fun f => do pure (f.offset, ← sizeOf f.type)) : Sem (Array (Nat × Nat))).run P w = .ok places.toArray w := by
            rw [← Array.toArray_toList (xs := fields), List.mapM_toArray]
            simp only [Sem.run_map, hrun, Result.andThen_ok]
          simp only [Sem.run_bind, e, Result.andThen_ok, hcs']
          rfl

theorem zerosA_VRL {z : Value} (hf : flat z = true) (n : Nat) : VRL ρ (zerosA z.cells n) (zerosA z.cells n) := by
  refine ⟨rfl, fun i v v' hv hv' => ?_⟩
  obtain rfl := Option.some.inj (hv.symm.trans hv')
  unfold zerosA at hv
  simp only [Array.toList_map, Array.toList_range, List.getElem?_map, Option.map_eq_some_iff] at hv
  obtain ⟨k, _, rfl⟩ := hv
  by_cases hk : k % z.cells.size < z.cells.size
  · rw [getElem!_pos z.cells (k % z.cells.size) hk]
    exact (zeroA_cells (ρ := ρ) hf).2 _ _ _ (Array.getElem?_eq_getElem hk) (Array.getElem?_eq_getElem hk)
  · rw [getElem!_neg z.cells (k % z.cells.size) hk]
    exact flat_VR ρ rfl

theorem buildSliceA_sound {σ σ' : Heap} {t : TypeId} {len : Nat} {ps ps' : Array (Nat × Value)} {v : Value} (hR : Rel w0 ρ (hp σ) w) (hfr : Fresh ρ σ.length σ'.length)
    (hp' : PartsR ρ ps.toList ps'.toList) (h : buildSliceA P σ t len ps.toList = some (v, σ')) : ∃ v' w', (Instr.buildSlice t len ps').run P w = .ok v' w' ∧ OpOut w0 ρ σ w v σ' v' w' := by
  unfold buildSliceA at h
  split at h
  · rename_i e hd
    cases hs : sizeA P e with
    | none => simp [hs] at h
    | some size =>
      simp only [hs] at h
      split at h
      · cases h
      · rename_i hbig
        split at h
        · cases h
        · rename_i zero hz
          have hzr : ∃ zs : Array Value, (if len * size = 0 then pure #[] else do pure (← zeroValue e).cells : Sem (Array Value)).run P w = .ok zs w ∧ zs = zero ∧ VRL ρ (zerosA zero (len * size)) (zerosA zero (len * size)) := by
            by_cases h0 : len * size = 0
            · simp only [h0, if_true, Option.some.injEq] at hz ⊢
              subst hz
              exact ⟨#[], rfl, rfl, ⟨rfl, fun i v v' hv => by simp [zerosA] at hv⟩⟩
            · simp only [h0, if_false, Option.map_eq_some_iff] at hz ⊢
              obtain ⟨z, hz, rfl⟩ := hz
              obtain ⟨hr, hf⟩ := run_zeroValue hz w
              exact ⟨z.cells, by simp [hr], rfl, zerosA_VRL hf _⟩
          obtain ⟨zs, hzrun, rfl, hzv⟩ := hzr
          split at h
          · cases h
          · rename_i cells hc
            simp only [Option.some.injEq, Prod.mk.injEq] at h
            obtain ⟨rfl, rfl⟩ := h
            obtain ⟨cells', hc', hv⟩ := fill_sound _ _ _ _ _ _ hp' (VRA.mk_list hzv) hc
            obtain ⟨ρ', hn, ha, hle, _⟩ := newB_out (ty := e) (l' := cells'.toList) hR hfr (.of_array hv)
            refine ⟨.slice (some ⟨w.heap.size, 0, none⟩) len len, { w with heap := w.heap.push (.cells cells' e) }, ?_, ρ', by simpa using hn, .sliceX _ _ _ _ (by omega) (Nat.le_refl _) (.inr ha)⟩
            have hnb : ¬ (16777216 < len * size) := by omega
            have ez : ((Array.range (len * size)).map (zs[· % zs.size]!)) = (zerosA zs (len * size)).toArray := by simp only [zerosA, Array.toArray_toList]
            by_cases h0 : len * size = 0
            · simp only [h0, if_true, Option.some.injEq] at hz
              subst hz
              simp only [h0] at hc' ez
              have hn0 : ¬ (16777216 < 0) := by omega
              simp only [Instr.buildSlice, Sem.run_bind, run_underlying hd, Result.andThen_ok, run_sizeOf' hs, Nat.reducePow, gt_iff_lt, h0, hn0, if_false, if_true, Sem.run_pure, ez, hc', newRow, run_newObj]
            · simp only [h0, if_false, Option.map_eq_some_iff] at hz
              obtain ⟨z, hz, rfl⟩ := hz
              obtain ⟨hr, hf⟩ := run_zeroValue hz w
              simp only [Instr.buildSlice, Sem.run_bind, run_underlying hd, Result.andThen_ok, run_sizeOf' hs, Nat.reducePow, gt_iff_lt, hnb, if_false, h0, hr, Sem.run_pure, ez, hc', newRow, run_newObj]
  · cases h

theorem makeSliceA_sound {σ σ' : Heap} {t : TypeId} {l l' c c' v : Value} (hR : Rel w0 ρ (hp σ) w) (hfr : Fresh ρ σ.length σ'.length) (hl : VR ρ l l') (hc : VR ρ c c')
    (h : makeSliceA P σ t l c = some (v, σ')) : ∃ v' w', (Instr.makeSlice t l' c').run P w = .ok v' w' ∧ OpOut w0 ρ σ w v σ' v' w' := by
  unfold makeSliceA at h
  split at h
  · rename_i e kl n kc m hd
    cases hl with
    | int _ _ =>
    cases hc with
    | int _ _ =>
    cases hi : P.info? e with
    | none => simp [hi] at h
    | some i =>
      simp only [hi] at h
      split at h
      · rename_i hb
        obtain ⟨h0, h1, h2, h3⟩ := hb
        cases hz : zeroA P e with
        | none => simp [hz] at h
        | some z =>
          simp only [hz, Option.some.injEq, Prod.mk.injEq] at h
          obtain ⟨rfl, rfl⟩ := h
          have hzf := (run_zeroValue (P := P) hz w).2
          have hzz : i.zero = some z := by
            unfold zeroA at hz
            simp only [hi] at hz
            cases hx : i.zero with
            | none => simp [hx] at hz
            | some z' =>
              simp only [hx] at hz
              split at hz
              · simpa using hz
              · cases hz
          obtain ⟨ρ', hn, ha, hle, _⟩ := newB_out (ty := e) (l' := zerosA z.cells (m.toNat * i.size)) hR hfr (zerosA_VRL hzf _)
          have hrun := run_make (P := P) w t e i z hd hi hzz kl kc n m h0 h1 h3 (by omega)
          refine ⟨_, _, hrun, ρ', ?_, .sliceX _ _ _ _ (by unfold unk; omega) (by omega) (.inr ha)⟩
          have ez : (madeCells z.cells (m.toNat * i.size)) = (zerosA z.cells (m.toNat * i.size)).toArray := by simp only [zerosA, Array.toArray_toList]; rfl
          rw [ez]
          exact hn
      · cases h
  · cases h
end
end Go.AE
