/-
  The chapter's examples (awake) hold: what the closed run leans on.
  Conditions: the table of attr's codes holds its eight numbers.
-/
import Derived.Test.YtabchbchopgnfaaGreatDoorJTxt
import Derived.Test.YtabchbchopgnfaaGreatDoorJAw
import Derived.Test.YtabchbchopgnfaaGreatDoorJKi2
import Derived.Test.YtabchbchopgnfaaGreatDoorAeClaim
import Derived.KernelRfl
namespace Go.Proofs.YtabchbchopgnfaaGreatDoor
open Go Go.AE Go.DE Go.RowKit

theorem fnOk_text {W : World} : FnOk Tryz.prog W 18 (fun a σ => RG.app σ (tnV stN0 (hp σ) a)) := by
  intro args σ v σ' hg
  dsimp only at hg
  unfold tnV at hg
  split at hg <;> first | (cases hg; done) | skip
  rename_i a c
  split at hg <;> first | (cases hg; done) | skip
  rename_i s x y hl
  split at hg <;> first | (cases hg; done) | skip
  rename_i hs
  simp only [RG.app, Option.map_some, Option.some.injEq, Prod.mk.injEq] at hg
  obtain ⟨rfl, rfl⟩ := hg
  show _ ≤ σ.length ∧ _
  refine ⟨Nat.le_refl _, fun ρ w args' hR _ hargs => ?_⟩
  obtain ⟨x', r', rfl, hx, hr⟩ := hargs.cons_inv
  obtain rfl := hr.nil_inv
  obtain ⟨a', c', rfl, ha⟩ : ∃ a' c', x' = .slice (some a') 1 c' ∧ addrOk ρ a a' := by
    cases hx with
    | sliceX _ a' _ _ h1 h2 h3 => exact ⟨a', c, rfl, h3.resolve_left (by omega)⟩
    | sliceU _ a' _ _ cap' sz h0 h1 h2 h3 => exact ⟨a', cap', rfl, (h3.resolve_left (by omega)).1⟩
  rw [loadG_eq] at hl
  obtain ⟨l', hl1, hl2, hl3⟩ := loadN_sound (st := stN0) (fun b i v h => nomatch h) hR ha hl
  obtain rfl : l' = [.string s, .bool x, .int .i64 y] := flat_args rfl hl2
  have ea : a' = ⟨a'.block, a'.off, none⟩ := by
    have := ha.1
    cases a'
    simp_all
  have hadd : ∀ j, a'.add j = ⟨a'.block, a'.off + j, none⟩ := by
    intro j
    rw [ea]
    unfold Addr.add
    split
    · rename_i h0; subst h0; rfl
    · rfl
  have hc : ∀ (j : Nat) v, [Value.string s, .bool x, .int .i64 y][j]? = some v → w.cell? ⟨a'.block, a'.off + j, none⟩ = some v := fun j v h => by
    rw [← hadd]
    exact hl3 j v h
  rw [ea]
  exact (text_calls a'.block a'.off c' s x y w hs (hc 0 _ rfl) (hc 1 _ rfl) (hc 2 _ rfl)).mono fun e w' ⟨he, hb⟩ => ⟨_, he, ρ, .of_below hR hb, .string _⟩
/-! ### Characters and clusters of one byte -/
def ext0 : ExtG := fun _ _ _ _ => none
def stE0 : AE.Stat := ⟨fun _ _ => none, extOf ext0⟩
theorem ext0_ok {W : World} : CallOk Tryz.prog W stE0.ext := fun f args σ v σ' h => by simp [stE0, extOf, ext0, RG.app] at h
theorem cw_run {n : Nat} (h : n = 32 ∨ n = 42 ∨ n = 115 ∨ n = 120) : answerF Tryz.prog stE0 ext0 60 8 86 [.int .i32 (.ofNat n)] (.int .i64 1) = true := by
  rcases h with rfl | rfl | rfl | rfl <;> kernel_rfl
theorem fnOk_cw {W : World} : FnOk Tryz.prog W 86 (flatFn cwV) := by
  refine fnOk_of ((runF_sound (n := 60) (st := stE0) (fun b i v h => nomatch h) ext0_ok follows 8).fn 86 (by rw [Tryz.func86]; rfl)) fun args v hg => ?_
  unfold cwV at hg
  split at hg <;> first | (cases hg; done) | skip
  split at hg <;> first | (cases hg; done) | skip
  rename_i n hn
  obtain rfl := Option.some.inj hg
  exact ⟨rfl, rfl, answerF_run rfl (cw_run hn)⟩
theorem keep_fn {W : World} {f : FuncId} {g : List Value → Option Value} (h : FnOk Tryz.prog W f (flatFn g)) : FnOk Tryz.prog W f (fun a σ => RG.app σ (keepX g a)) := fun args σ v σ' hx => by
  refine h args σ v σ' ?_
  obtain ⟨h1, rfl⟩ := keepX_app (g := g) hx
  simp [flatFn, h1]
def ext1 : ExtG := fun f args _ _ => match f with
  | 86 => keepX cwV args
  | _ => none
def stE1 : AE.Stat := ⟨fun _ _ => none, extOf ext1⟩
theorem ext1_ok {W : World} : CallOk Tryz.prog W stE1.ext := by
  intro f
  by_cases h1 : f = 86
  · subst h1
    exact keep_fn fnOk_cw
  · intro args σ v σ' hx
    exfalso
    have : ext1 f args (hp σ) σ.length = none := by
      unfold ext1
      split <;> first | contradiction | rfl
    simp [stE1, extOf, RG.app, this] at hx
theorem oneS_inv {s : ByteArray} (h : oneS s = true) : s = ⟨#[32]⟩ ∨ s = ⟨#[42]⟩ ∨ s = ⟨#[115]⟩ ∨ s = ⟨#[120]⟩ := by
  unfold oneS at h
  split at h <;> first | (cases h; done) | skip
  rename_i c
  simp only [Bool.or_eq_true, Nat.beq_eq] at h
  have key : ∀ n : UInt8, c.toNat = n.toNat → (⟨⟨[c]⟩⟩ : ByteArray) = ⟨#[n]⟩ := fun n e => by
    obtain rfl := UInt8.toNat_inj.1 e
    rfl
  rcases h with ((h | h) | h) | h
  · exact .inl (key 32 h)
  · exact .inr (.inl (key 42 h))
  · exact .inr (.inr (.inl (key 115 h)))
  · exact .inr (.inr (.inr (key 120 h)))
theorem cc_run {s : ByteArray} (h : s = ⟨#[32]⟩ ∨ s = ⟨#[42]⟩ ∨ s = ⟨#[115]⟩ ∨ s = ⟨#[120]⟩) : answerF Tryz.prog stE1 ext1 60 8 115 [.string s] (.int .i64 0) = true := by
  rcases h with rfl | rfl | rfl | rfl <;> kernel_rfl
theorem cd_run {s : ByteArray} (h : s = ⟨#[32]⟩ ∨ s = ⟨#[42]⟩ ∨ s = ⟨#[115]⟩ ∨ s = ⟨#[120]⟩) : answerF Tryz.prog stE1 ext1 60 8 116 [.string s] (.int .i64 1) = true := by
  rcases h with rfl | rfl | rfl | rfl <;> kernel_rfl
theorem uv_run : answerF Tryz.prog stE1 ext1 60 8 82 [.string ⟨⟨[]⟩⟩] (.bool true) = true := by kernel_rfl
theorem fnOk_cc {W : World} : FnOk Tryz.prog W 115 (flatFn ccV) := by
  refine fnOk_of ((runF_sound (n := 60) (st := stE1) (fun b i v h => nomatch h) ext1_ok follows 8).fn 115 (by rw [Tryz.func115]; rfl)) fun args v hg => ?_
  unfold ccV at hg
  split at hg <;> first | (cases hg; done) | skip
  rename_i s
  cases ho : oneS s with
  | false => rw [ho] at hg; cases hg
  | true =>
    rw [ho] at hg
    obtain rfl := Option.some.inj hg
    exact ⟨rfl, rfl, answerF_run rfl (cc_run (oneS_inv ho))⟩
theorem fnOk_cd {W : World} : FnOk Tryz.prog W 116 (flatFn cdV) := by
  refine fnOk_of ((runF_sound (n := 60) (st := stE1) (fun b i v h => nomatch h) ext1_ok follows 8).fn 116 (by rw [Tryz.func116]; rfl)) fun args v hg => ?_
  unfold cdV at hg
  split at hg <;> first | (cases hg; done) | skip
  rename_i s
  cases ho : oneS s with
  | false => rw [ho] at hg; cases hg
  | true =>
    rw [ho] at hg
    obtain rfl := Option.some.inj hg
    exact ⟨rfl, rfl, answerF_run rfl (cd_run (oneS_inv ho))⟩
theorem fnOk_uv {W : World} : FnOk Tryz.prog W 82 (flatFn uvV) := by
  refine fnOk_of ((runF_sound (n := 60) (st := stE1) (fun b i v h => nomatch h) ext1_ok follows 8).fn 82 (by rw [Tryz.func82]; rfl)) fun args v hg => ?_
  unfold uvV at hg
  split at hg <;> first | (cases hg; done) | skip
  obtain rfl := Option.some.inj hg
  exact ⟨rfl, rfl, answerF_run rfl uv_run⟩
theorem extA_ok {W : World} : CallOk Tryz.prog W stA.ext := by
  intro f
  by_cases h1 : f = 86
  · subst h1; exact keep_fn fnOk_cw
  by_cases h2 : f = 115
  · subst h2; exact keep_fn fnOk_cc
  by_cases h3 : f = 116
  · subst h3; exact keep_fn fnOk_cd
  by_cases h4 : f = 82
  · subst h4; exact keep_fn fnOk_uv
  by_cases h5 : f = 18
  · subst h5; exact fnOk_text
  · intro args σ v σ' hx
    exfalso
    have : extA f args (hp σ) σ.length = none := by
      unfold extA
      split <;> first | contradiction | rfl
    simp [stA, extOf, RG.app, this] at hx
def awV : List Value → Option Value
  | [] => some (.bool true)
  | _ => none
theorem awake_ok {W : World} (hst : GoodSt W stA) : FnOk Tryz.prog W 5 (flatFn awV) := by
  refine fnOk_of ((runF_sound (n := 400) hst extA_ok follows 30).fn 5 (by rw [Tryz.func5]; rfl)) fun args v hg => ?_
  unfold awV at hg
  split at hg <;> first | (cases hg; done) | skip
  obtain rfl := Option.some.inj hg
  exact ⟨rfl, rfl, answerF_run rfl awake_run⟩
end Go.Proofs.YtabchbchopgnfaaGreatDoor
