/-
  Functions of Go's library as the evaluator sees them: their contracts as functions on values, for strconv.Itoa, strings.Join, strings.ToLower, strings.Fields and whatever has flat arguments and a flat result.
  Conditions: the contracts of the model's calls, as the shelf lays them, are given.
-/
import Derived.Test.YtabchbchopgnfaaGreatDoorAeFast4
import Derived.Lib.ItoaNum
import Derived.Lib.Join
import Derived.Lib.Fields
import Derived.Lib.Case
namespace Go.AE
open Go Go.RowKit

def stN : AE.Stat := ⟨fun _ _ => none, fun _ _ _ => none⟩
theorem stN_good (w0 : World) : GoodSt w0 stN := fun b i v h => by cases h
def strsA : List Value → Option (List ByteArray)
  | [] => some []
  | .string s :: r => (strsA r).map (s :: ·)
  | _ :: _ => none
theorem strsA_some : ∀ {l : List Value} {ss : List ByteArray}, strsA l = some ss → l = ss.map Value.string
  | [], ss, h => by obtain rfl := Option.some.inj h; rfl
  | v :: r, ss, h => by
    unfold strsA at h
    split at h <;> first | (cases h; done) | skip
    · rename_i heq
      cases heq
    · rename_i s r' heq
      cases heq
      simp only [Option.map_eq_some_iff] at h
      obtain ⟨m, hm, rfl⟩ := h
      rw [strsA_some hm]
      rfl
def itoaV : List Value → Option Value
  | [.int .i64 n] => if -9223372036854775808 ≤ n ∧ n ≤ 9223372036854775807 then some (.string ⟨(Lib.itoa n).toArray⟩) else none
  | _ => none
def joinL (ss : List ByteArray) (sep : ByteArray) : List UInt8 := Lib.join (ss.map (·.data.toList)) sep.data.toList
def joinX (g : HF) : List Value → RG
  | [.slice (some a) n _, .string sep] => match (if n = 0 then some [] else loadG stN g a n) with
    | some l => match strsA l with
      | some ss => if (joinL ss sep).length ≤ 140737488355328 ∧ ss.length ≤ 140737488355328 then some (.string ⟨(joinL ss sep).toArray⟩, .keep) else none
      | none => none
    | none => none
  | _ => none
def ascii (l : List UInt8) : Bool := l.all fun b => Nat.blt b.toNat 128
def fieldsL (s : ByteArray) : List Value := (Lib.fields s.data.toList).map fun l => Value.string ⟨l.toArray⟩
def fieldsX (n : Nat) : List Value → RG
  | [.string s] => if s.size < 4294967281 ∧ ascii s.data.toList = true ∧ (Lib.fields s.data.toList).length < unk then
      some (.slice (some ⟨n, 0, none⟩) (Lib.fields s.data.toList).length (Lib.fields s.data.toList).length, .push (.cells (fieldsL s))) else none
  | _ => none
def lowerV : List Value → Option Value
  | [.string s] => if s.size ≤ 140737488355328 ∧ ascii s.data.toList = true then some (.string ⟨(Lib.toLowerA s.data.toList).toArray⟩) else none
  | _ => none
def keepX (g : List Value → Option Value) : List Value → RG := fun a => (g a).map (·, .keep)

section
variable {P : Program} {w0 : World} {ρ : Ren} {w w' : World} {f : FuncId}

theorem ascii_lt {l : List UInt8} (h : ascii l = true) (j : Nat) (b : UInt8) (hb : l[j]? = some b) : b.toNat < 128 :=
  blt_iff.1 (List.all_eq_true.1 h b (List.mem_of_getElem? hb))

theorem Nxt.of_below {σ : Heap} (hR : Rel w0 ρ (hp σ) w) (hb : Below w.heap.size w w') : Nxt w0 ρ σ w ρ σ w' := by
  refine ⟨Nat.le_refl _, .refl _ _ _, ⟨hb.size, fun k hk _ => hb.block k hk, fun k hk _ => hk⟩, ⟨hR.below.trans ⟨hb.os, hb.tape, hb.output, hb.size, fun k hk => hb.block k (Nat.lt_of_lt_of_le hk hR.below.size)⟩, fun id b base n e => ?_, fun id b base n blk e1 e2 => ?_, hR.inj⟩⟩
  · have := hR.dyn id b base n e
    have := hb.size
    omega
  · obtain ⟨o, ho, hc⟩ := hR.cont id b base n blk e1 e2
    exact ⟨o, (hb.block b (hR.dyn id b base n e1).2).trans ho, hc⟩

theorem flat_args {args args' : List Value} (hfa : args.all flat = true) (hargs : VRL ρ args args') : args' = args := by
  apply List.ext_getElem hargs.1.symm
  intro i h1 h2
  exact VR_flat (List.all_eq_true.1 hfa _ (List.getElem_mem h2)) (hargs.2 i _ _ (List.getElem?_eq_getElem h2) (List.getElem?_eq_getElem h1))

theorem keepX_app {g : List Value → Option Value} {args : List Value} {σ σ' : Heap} {v : Value} (h : RG.app σ (keepX g args) = some (v, σ')) : g args = some v ∧ σ' = σ := by
  unfold RG.app keepX at h
  simp only [Option.map_map, Option.map_eq_some_iff, Function.comp, Prod.mk.injEq] at h
  obtain ⟨u, h1, rfl, rfl⟩ := h
  exact ⟨h1, rfl⟩

/-- Flat arguments and results. -/
theorem fnOk_keep {g : List Value → Option Value} (h : ∀ args v, g args = some v → args.all flat = true ∧ flat v = true ∧ ∀ w, Below w0.heap.size w0 w → Calls P f args.toArray w fun e w' => e = .returned v ∧ Below w.heap.size w w') :
    FnOk P w0 f (fun a σ => RG.app σ (keepX g a)) := by
  intro args σ v σ' hg
  obtain ⟨hg2, rfl⟩ := keepX_app hg
  obtain ⟨hfa, hfv, hc⟩ := h args v hg2
  refine ⟨Nat.le_refl _, fun ρ w args' hR _ hargs => ?_⟩
  obtain rfl := flat_args hfa hargs
  exact (hc w hR.below).mono fun e w' ⟨he, hb⟩ => ⟨v, he, ρ, .of_below hR hb, flat_VR ρ hfv⟩

theorem fnOk_itoa (h : ∀ n w, -9223372036854775808 ≤ n → n ≤ 9223372036854775807 → Below w0.heap.size w0 w → Calls P f #[.int .i64 n] w fun e w' => e = .returned (.string ⟨(Lib.itoa n).toArray⟩) ∧ Below w.heap.size w w') :
    FnOk P w0 f (fun a σ => RG.app σ (keepX itoaV a)) := by
  refine fnOk_keep fun args v hg => ?_
  unfold itoaV at hg
  split at hg <;> first | (cases hg; done) | skip
  rename_i n
  split at hg <;> first | (cases hg; done) | skip
  rename_i hb
  obtain rfl := Option.some.inj hg
  exact ⟨rfl, rfl, fun w hw => h n w hb.1 hb.2 hw⟩
theorem fnOk_lower (h : ∀ (s : ByteArray) w, s.size ≤ 140737488355328 → (∀ (j : Nat) (b : UInt8), s.data.toList[j]? = some b → b.toNat < 128) → Calls P f #[.string s] w fun e w' => e = .returned (.string ⟨(Lib.toLowerA s.data.toList).toArray⟩) ∧ Below w.heap.size w w') :
    FnOk P w0 f (fun a σ => RG.app σ (keepX lowerV a)) := by
  refine fnOk_keep fun args v hg => ?_
  unfold lowerV at hg
  split at hg <;> first | (cases hg; done) | skip
  rename_i s
  split at hg <;> first | (cases hg; done) | skip
  rename_i hb
  obtain rfl := Option.some.inj hg
  exact ⟨rfl, rfl, fun w _ => h s w hb.1 (ascii_lt hb.2)⟩
theorem fnOk_join (h0 : ∀ (a : Option Addr) c sep w, Calls P f #[.slice a 0 c, .string sep] w fun e w' => e = .returned (.string ⟨#[]⟩) ∧ w' = w)
    (h : ∀ (bk o c : Nat) (xs : List ByteArray) (sep : ByteArray) (w : World), (∀ (j : Nat) x, xs[j]? = some x → w.cell? ⟨bk, o + j, none⟩ = some (.string x)) → bk < w.heap.size → xs.length ≤ 140737488355328 → xs.length ≤ c →
      (Lib.join (xs.map (·.data.toList)) sep.data.toList).length ≤ 140737488355328 →
      Calls P f #[.slice (some ⟨bk, o, none⟩) xs.length c, .string sep] w fun e w' => e = .returned (.string ⟨(Lib.join (xs.map (·.data.toList)) sep.data.toList).toArray⟩) ∧ Below w.heap.size w w') :
    FnOk P w0 f (fun a σ => RG.app σ (joinX (hp σ) a)) := by
  intro args σ v σ' hg
  dsimp only at hg
  unfold joinX at hg
  split at hg <;> first | (cases hg; done) | skip
  rename_i a n c sep
  split at hg <;> first | (cases hg; done) | skip
  rename_i l hl
  split at hg <;> first | (cases hg; done) | skip
  rename_i ss hss
  split at hg <;> first | (cases hg; done) | skip
  rename_i hb
  simp only [RG.app, Option.map_some, Option.some.injEq, Prod.mk.injEq] at hg
  obtain ⟨rfl, rfl⟩ := hg
  obtain rfl := strsA_some hss
  show _ ≤ σ.length ∧ _
  refine ⟨Nat.le_refl _, fun ρ w args' hR _ hargs => ?_⟩
  obtain ⟨x', r', rfl, hx, hr⟩ := hargs.cons_inv
  obtain ⟨y', r2, rfl, hy, hr⟩ := hr.cons_inv
  obtain rfl := hr.nil_inv
  cases hy
  obtain ⟨a', c', rfl, ha, hcap⟩ : ∃ a' c', x' = .slice (some a') n c' ∧ (n = 0 ∨ addrOk ρ a a') ∧ n ≤ c' := by
    cases hx with
    | sliceX _ a' _ _ h1 h2 h3 => exact ⟨a', c, rfl, h3.imp (fun e => by omega) id, h2⟩
    | sliceU _ a' _ _ cap' sz h0 h1 h2 h3 => exact ⟨a', cap', rfl, h3.imp (fun e => by omega) (·.1), h2⟩
  have fin : ∀ {e : Ending} {w' : World}, (e = .returned (.string ⟨(joinL ss sep).toArray⟩) ∧ Below w.heap.size w w') → ∃ v', e = .returned v' ∧ OpOut w0 ρ σ w (.string ⟨(joinL ss sep).toArray⟩) σ v' w' :=
    fun ⟨he, hb⟩ => ⟨_, he, ρ, .of_below hR hb, .string _⟩
  by_cases hn : n = 0
  · subst hn
    rw [if_pos rfl] at hl
    have e : ss = [] := by
      have := congrArg List.length (Option.some.inj hl)
      simpa using this.symm
    subst e
    refine (h0 (some a') c' sep w).mono fun e w' ⟨he, hw⟩ => fin ⟨?_, hw ▸ Below.refl _ _⟩
    rw [he]
    rfl
  · rw [if_neg hn, loadG_eq] at hl
    have ha := ha.resolve_left hn
    obtain ⟨l', hl1, hl2, hl3⟩ := loadN_sound (stN_good w0) hR ha hl
    have el : l' = ss.map Value.string := by
      apply List.ext_getElem hl2.1.symm
      intro i h1 h2
      have := hl2.2 i _ _ (List.getElem?_eq_getElem h2) (List.getElem?_eq_getElem h1)
      simp only [List.getElem_map] at this ⊢
      generalize l'[i] = x at this
      cases this
      rfl
    subst el
    have hlen : ss.length = n := by simpa using hl1
    have ea : a' = ⟨a'.block, a'.off, none⟩ := by
      have := ha.1
      cases a'
      simp_all
    have hadd : ∀ j, a'.add j = ⟨a'.block, a'.off + j, none⟩ := by
      intro j
      rw [ea]
      unfold Addr.add
      split
      · rename_i h0; subst h0; rfl
      · rfl
    have hcell : ∀ (j : Nat) x, ss[j]? = some x → w.cell? ⟨a'.block, a'.off + j, none⟩ = some (.string x) := by
      intro j x hx
      rw [← hadd]
      exact hl3 j _ (by rw [List.getElem?_map, hx]; rfl)
    have hbk : a'.block < w.heap.size := by
      have h1 := hcell 0 ss[0] (List.getElem?_eq_getElem (by omega))
      rcases Nat.lt_or_ge a'.block w.heap.size with h | h
      · exact h
      · simp [World.cell?, Array.getElem?_eq_none h] at h1
    have := h a'.block a'.off c' ss sep w hcell hbk hb.2 (by omega) hb.1
    rw [hlen, ← ea] at this
    exact this.mono fun e w' he => fin he
theorem fnOk_fields {ty : TypeId} (h : ∀ (s : ByteArray) w, s.size < 4294967281 → (∀ (j : Nat) b, s.data.toList[j]? = some b → b.toNat < 128) → Below w0.heap.size w0 w → Calls P f #[.string s] w fun e w' =>
      e = .returned (.slice (some ⟨w.heap.size, 0, none⟩) (Lib.fields s.data.toList).length (Lib.fields s.data.toList).length) ∧ w' = w.alloc (.cells ((Lib.fields s.data.toList).map fun l => Value.string ⟨l.toArray⟩).toArray ty)) :
    FnOk P w0 f (fun a σ => RG.app σ (fieldsX σ.length a)) := by
  intro args σ v σ' hg
  dsimp only at hg
  unfold fieldsX at hg
  split at hg <;> first | (cases hg; done) | skip
  rename_i s
  split at hg <;> first | (cases hg; done) | skip
  rename_i hb
  simp only [RG.app, Option.map_some, Option.some.injEq, Prod.mk.injEq] at hg
  obtain ⟨rfl, rfl⟩ := hg
  refine ⟨by simp [Ed.app], fun ρ w args' hR hfr hargs => ?_⟩
  obtain rfl := flat_args (show [Value.string s].all flat = true from rfl) hargs
  refine (h s w hb.1 (ascii_lt hb.2.1) hR.below).mono fun e w' ⟨he, hw⟩ => ⟨_, he, ?_⟩
  subst hw
  have hf := hfr σ.length (Nat.le_refl _) (by simp [Ed.app])
  have hn := newB_sound (ty := ty) (l := fieldsL s) (cs := (fieldsL s).toArray) hR hf (by simp) (fun i v hi => ⟨v, by simpa using hi, by
    simp only [fieldsL, List.getElem?_map, Option.map_eq_some_iff] at hi
    obtain ⟨x, _, rfl⟩ := hi
    exact .string _⟩)
  exact ⟨_, hn, .sliceX _ _ _ _ hb.2.2 (Nat.le_refl _) (.inr ⟨rfl, .inr ⟨rfl, w.heap.size, 0, _, by simp [Ren.put]; rfl, rfl, rfl⟩⟩)⟩
end
end Go.AE
