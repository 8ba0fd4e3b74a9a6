/-
 The law's own body: whatever the three terminals, it answers true.
 Conditions: none beyond those of the contracts.

 The chapter's examples (awake) hold: what the closed run leans on.
 Conditions: the table of attr's codes holds its eight numbers.

 What is known of the memory when the law is called; the terminal and the key that it is handed.
 Conditions: the row's own, that the table of attr's codes holds what the row lists, and that what is read is of bulk at most 1048576.
-/
import Derived.Test.YtfdldnomelnbgaaGreatDoorJOf
import Derived.Test.YtfdldnomelnbgaaGreatDoorJShelf
import Derived.Test.YtfdldnomelnbgaaGreatDoorJAw
import Derived.Test.YtfdldnomelnbgaaGreatDoorJCw
import Derived.Test.YtfdldnomelnbgaaGreatDoorAeClaim
import Derived.Test.YtfdldnomelnbgaaGreatDoorAeLib
import Derived.KernelRfl
import Derived.Test.YtfdldnomelnbgaaGreatDoorDeOpen
import Derived.Test.YtfdldnomelnbgaaGreatDoorCards
import Derived.Test.YtfdldnomelnbgaaGreatDoorTie
import Derived.Lay
import Derived.Lib.LaidTab
import Derived.Lib.SmallJoins
import Derived.WalkKit
import Derived.MakeChecks
import Derived.Deep.DeepHandedRow
import Derived.ChangeMaps5
namespace Go.Proofs.YtfdldnomelnbgaaGreatDoor
open Go Go.AE Go.DE Go.RowKit

noncomputable def awC : ConF := fun args k => match args with
 | [] => k (fun _ => (bv true, []))
 | _ => none
/-- fine, at any terminal. -/
noncomputable def gfC (Q : List DV → Prop) (F : List DV → Bool) : ConF := fun args k => match args with
 | [.agg l, .v (.slice none 0 0)] => bif holds (Q l) then k (fun _ => (bv (F l), [])) else none
 | _ => none
def fineL (l : List DV) : Bool := fineF (tmOf l)
theorem gfC_ok {st : AE.Stat} (hx : ∀ f, exA f = false → ∀ a σ, st.ext f a σ = none) : ConOk Tryz.prog st 5 (gfC tmOk fineL) := fun args k hk => by
 unfold gfC at hk
 split at hk <;> first | (cases hk; done) | skip
 rename_i l
 obtain ⟨hb, hk⟩ := bif_none hk
 obtain ⟨h1, h2⟩ := holds_eq.1 hb
 exact fnC_ok hx (tmOf l) h2 _ k (hT h1 hk)
theorem here_tm {x : Tm} (h : x.pos) : tmHere x.cells := ⟨rfl, h⟩
theorem viR_le {x : Tm} (hok : x.ok) : glsAll (fun i => viR (x.gR i)) (viN x) := by
 have hn : viN x ≤ x.gn := by
  unfold viN
  cases showF x with
  | true => exact Nat.le_refl _
  | false => exact Nat.zero_le _
 refine ⟨Nat.le_trans hn hok.1.1, fun i hi => ?_⟩
 have h1 := hok.1.2 i (by omega)
 exact Nat.le_trans (trimN_le _ _) (Nat.le_trans (gls_len _ _ _) h1.1)
def Tm.lowT (x : Tm) : Prop := ∀ i, i < x.gn → x.gT i = false
end Go.Proofs.YtfdldnomelnbgaaGreatDoor

namespace Go.Proofs.YtfdldnomelnbgaaGreatDoor
open Go Go.AE Go.DE Go.RowKit

theorem follows : Tryz.prog.follows .mixedOrders = true := by kernel_rfl
theorem fnOk_text {W : World} : FnOk Tryz.prog W 21 (fun a σ => RG.app σ (tnV stN0 (hp σ) a)) := by
 intro args σ v σ' hg
 dsimp only at hg
 unfold tnV at hg
 split at hg <;> first | (cases hg; done) | skip
 rename_i a c
 split at hg <;> first | (cases hg; done) | skip
 rename_i s x y hl
 split at hg <;> first | (cases hg; done) | skip
 rename_i hs
 simp only [RG.app, Option.map_some, Option.some.injEq, Prod.mk.injEq] at hg
 obtain ⟨rfl, rfl⟩ := hg
 show _ ≤ σ.length ∧ _
 refine ⟨Nat.le_refl _, fun ρ w args' hR _ hargs => ?_⟩
 obtain ⟨x', r', rfl, hx, hr⟩ := hargs.cons_inv
 obtain rfl := hr.nil_inv
 obtain ⟨a', c', rfl, ha⟩ : ∃ a' c', x' = .slice (some a') 1 c' ∧ addrOk ρ a a' := by
  cases hx with
  | sliceX _ a' _ _ h1 h2 h3 => exact ⟨a', c, rfl, h3.resolve_left (by omega)⟩
  | sliceU _ a' _ _ cap' sz h0 h1 h2 h3 => exact ⟨a', cap', rfl, (h3.resolve_left (by omega)).1⟩
 rw [loadG_eq] at hl
 obtain ⟨l', hl1, hl2, hl3⟩ := loadN_sound (st := stN0) (fun b i v h => nomatch h) hR ha hl
 obtain rfl : l' = [.string s, .bool x, .int .i64 y] := flat_args rfl hl2
 have ea : a' = ⟨a'.block, a'.off, none⟩ := by
  have := ha.1
  cases a'
  simp_all
 have hadd : ∀ j, a'.add j = ⟨a'.block, a'.off + j, none⟩ := by
  intro j
  rw [ea]
  unfold Addr.add
  split
  ·rename_i h0; subst h0; rfl
  ·rfl
 have hc : ∀ (j : Nat) v, [Value.string s, .bool x, .int .i64 y][j]? = some v → w.cell? ⟨a'.block, a'.off + j, none⟩ = some v := fun j v h => by
  rw [← hadd]
  exact hl3 j v h
 rw [ea]
 exact (text_calls a'.block a'.off c' s x y w hs (hc 0 _ rfl) (hc 1 _ rfl) (hc 2 _ rfl)).mono fun e w' ⟨he, hb⟩ => ⟨_, he, ρ, .of_below hR hb, .string _⟩
/-! ### Characters and clusters of one byte -/
def ext0 : ExtG := fun _ _ _ _ => none
def stE0 : AE.Stat := ⟨fun _ _ => none, extOf ext0⟩
theorem ext0_ok {W : World} : CallOk Tryz.prog W stE0.ext := fun f args σ v σ' h => by simp [stE0, extOf, ext0, RG.app] at h
theorem cw_run {n : Nat} (h : n = 32 ∨ n = 42 ∨ n = 115 ∨ n = 120) : answerF Tryz.prog stE0 ext0 60 8 95 [.int .i32 (.ofNat n)] (.int .i64 1) = true := by
 rcases h with rfl | rfl | rfl | rfl <;> kernel_rfl
theorem fnOk_cw {W : World} : FnOk Tryz.prog W 95 (flatFn cwV) := by
 refine fnOk_of ((runF_sound (n := 60) (st := stE0) (fun b i v h => nomatch h) ext0_ok follows 8).fn 95 (by rw [Tryz.func95]; rfl)) fun args v hg => ?_
 unfold cwV at hg
 split at hg <;> first | (cases hg; done) | skip
 split at hg <;> first | (cases hg; done) | skip
 rename_i n hn
 obtain rfl := Option.some.inj hg
 exact ⟨rfl, rfl, answerF_run rfl (cw_run hn)⟩
theorem keep_fn {W : World} {f : FuncId} {g : List Value → Option Value} (h : FnOk Tryz.prog W f (flatFn g)) : FnOk Tryz.prog W f (fun a σ => RG.app σ (keepX g a)) := fun args σ v σ' hx => by
 refine h args σ v σ' ?_
 obtain ⟨h1, rfl⟩ := keepX_app (g := g) hx
 simp [flatFn, h1]
def ext1 : ExtG := fun f args _ _ => match f with
 | 95 => keepX cwV args
 | _ => none
def stE1 : AE.Stat := ⟨fun _ _ => none, extOf ext1⟩
theorem ext1_ok {W : World} : CallOk Tryz.prog W stE1.ext := by
 intro f
 by_cases h1 : f = 95
 ·subst h1
  exact keep_fn fnOk_cw
 ·intro args σ v σ' hx
  exfalso
  have : ext1 f args (hp σ) σ.length = none := by
   unfold ext1
   split <;> first | contradiction | rfl
  simp [stE1, extOf, RG.app, this] at hx
theorem oneS_inv {s : ByteArray} (h : oneS s = true) : s = ⟨#[32]⟩ ∨ s = ⟨#[42]⟩ ∨ s = ⟨#[115]⟩ ∨ s = ⟨#[120]⟩ := by
 unfold oneS at h
 split at h <;> first | (cases h; done) | skip
 rename_i c
 simp only [Bool.or_eq_true, Nat.beq_eq] at h
 have key : ∀ n : UInt8, c.toNat = n.toNat → (⟨⟨[c]⟩⟩ : ByteArray) = ⟨#[n]⟩ := fun n e => by
  obtain rfl := UInt8.toNat_inj.1 e
  rfl
 rcases h with ((h | h) | h) | h
 ·exact .inl (key 32 h)
 ·exact .inr (.inl (key 42 h))
 ·exact .inr (.inr (.inl (key 115 h)))
 ·exact .inr (.inr (.inr (key 120 h)))
theorem cc_run {s : ByteArray} (h : s = ⟨#[32]⟩ ∨ s = ⟨#[42]⟩ ∨ s = ⟨#[115]⟩ ∨ s = ⟨#[120]⟩) : answerF Tryz.prog stE1 ext1 60 8 67 [.string s] (.int .i64 0) = true := by
 rcases h with rfl | rfl | rfl | rfl <;> kernel_rfl
theorem cd_run {s : ByteArray} (h : s = ⟨#[32]⟩ ∨ s = ⟨#[42]⟩ ∨ s = ⟨#[115]⟩ ∨ s = ⟨#[120]⟩) : answerF Tryz.prog stE1 ext1 60 8 68 [.string s] (.int .i64 1) = true := by
 rcases h with rfl | rfl | rfl | rfl <;> kernel_rfl
theorem uv_run : answerF Tryz.prog stE1 ext1 60 8 29 [.string ⟨⟨[]⟩⟩] (.bool true) = true := by kernel_rfl
theorem fnOk_cc {W : World} : FnOk Tryz.prog W 67 (flatFn ccV) := by
 refine fnOk_of ((runF_sound (n := 60) (st := stE1) (fun b i v h => nomatch h) ext1_ok follows 8).fn 67 (by rw [Tryz.func67]; rfl)) fun args v hg => ?_
 unfold ccV at hg
 split at hg <;> first | (cases hg; done) | skip
 rename_i s
 cases ho : oneS s with
 | false => rw [ho] at hg; cases hg
 | true =>
  rw [ho] at hg
  obtain rfl := Option.some.inj hg
  exact ⟨rfl, rfl, answerF_run rfl (cc_run (oneS_inv ho))⟩
theorem fnOk_cd {W : World} : FnOk Tryz.prog W 68 (flatFn cdV) := by
 refine fnOk_of ((runF_sound (n := 60) (st := stE1) (fun b i v h => nomatch h) ext1_ok follows 8).fn 68 (by rw [Tryz.func68]; rfl)) fun args v hg => ?_
 unfold cdV at hg
 split at hg <;> first | (cases hg; done) | skip
 rename_i s
 cases ho : oneS s with
 | false => rw [ho] at hg; cases hg
 | true =>
  rw [ho] at hg
  obtain rfl := Option.some.inj hg
  exact ⟨rfl, rfl, answerF_run rfl (cd_run (oneS_inv ho))⟩
theorem fnOk_uv {W : World} : FnOk Tryz.prog W 29 (flatFn uvV) := by
 refine fnOk_of ((runF_sound (n := 60) (st := stE1) (fun b i v h => nomatch h) ext1_ok follows 8).fn 29 (by rw [Tryz.func29]; rfl)) fun args v hg => ?_
 unfold uvV at hg
 split at hg <;> first | (cases hg; done) | skip
 obtain rfl := Option.some.inj hg
 exact ⟨rfl, rfl, answerF_run rfl uv_run⟩
theorem extA_ok {W : World} : CallOk Tryz.prog W stA.ext := by
 intro f
 by_cases h1 : f = 95
 ·subst h1; exact keep_fn fnOk_cw
 by_cases h2 : f = 67
 ·subst h2; exact keep_fn fnOk_cc
 by_cases h3 : f = 68
 ·subst h3; exact keep_fn fnOk_cd
 by_cases h4 : f = 29
 ·subst h4; exact keep_fn fnOk_uv
 by_cases h5 : f = 21
 ·subst h5; exact fnOk_text
 ·intro args σ v σ' hx
  exfalso
  have : extA f args (hp σ) σ.length = none := by
   unfold extA
   split <;> first | contradiction | rfl
  simp [stA, extOf, RG.app, this] at hx
def awV : List Value → Option Value
 | [] => some (.bool true)
 | _ => none
theorem awake_ok {W : World} (hst : GoodSt W stA) : FnOk Tryz.prog W 6 (flatFn awV) := by
 refine fnOk_of ((runF_sound (n := 400) hst extA_ok follows 30).fn 6 (by rw [Tryz.func6]; rfl)) fun args v hg => ?_
 unfold awV at hg
 split at hg <;> first | (cases hg; done) | skip
 obtain rfl := Option.some.inj hg
 exact ⟨rfl, rfl, answerF_run rfl awake_run⟩
/-! ### utf8.ValidString -/
def vdV : List Value → Option Value
 | [.string s] => if s.size ≤ 9000000 then some (.bool (vdF s)) else none
 | _ => none
theorem tabs_keep {W w : World} (h : Lib.Utf8Tabs 0 1 W) (hw : Below W.heap.size W w) : Lib.Utf8Tabs 0 1 w := by
 have key : ∀ {g i : Nat} {v : Value}, W.cell? ⟨g, i, none⟩ = some v → w.cell? ⟨g, i, none⟩ = some v := fun hc => (hw.cell (p := ⟨_, _, none⟩) (World.block_lt_of_cell? _ _ hc)).trans hc
 exact ⟨fun c hc => key (h.1 c hc), fun i hi => ⟨key (h.2 i hi).1, key (h.2 i hi).2⟩⟩
theorem fnOk_vd {W : World} (h : Lib.Utf8Tabs 0 1 W) : FnOk Tryz.prog W 65 (fun a σ => RG.app σ (keepX vdV a)) := by
 refine fnOk_keep fun args v hg => ?_
 unfold vdV at hg
 split at hg <;> first | (cases hg; done) | skip
 rename_i s
 split at hg <;> first | (cases hg; done) | skip
 rename_i hs
 obtain rfl := Option.some.inj hg
 exact ⟨rfl, rfl, fun w hw => Tryz.utf8_ValidString s w (Nat.le_trans hs (by decide)) (tabs_keep h hw)⟩
end Go.Proofs.YtfdldnomelnbgaaGreatDoor

namespace Go.Proofs.YtfdldnomelnbgaaGreatDoor
open Go Go.AE Go.DE Go.RowKit Go.ChangeShapes Go.Joins

noncomputable def extK : ExtG := fun f args _ _ => match f with
 | 6 => keepX awV args
 | 65 => keepX vdV args
 | _ => none
noncomputable def stK (W : World) : AE.Stat := ⟨stOf W, extOf extK⟩
theorem stK_good (W : World) : GoodSt W (stK W) := stOf_good W _
theorem hxK (W : World) : ∀ f, exA f = false → ∀ a σ, (stK W).ext f a σ = none := fun f h a σ => by
 have h1 : f ≠ 6 := fun e => by subst e; cases h
 have h2 : f ≠ 65 := fun e => by subst e; cases h
 have : extK f a (hp σ) σ.length = none := by
  unfold extK
  split <;> first | contradiction | rfl
 simp [stK, extOf, RG.app, this]
theorem awC_ok (W : World) : ConOk Tryz.prog (stK W) 6 awC := by
 refine con_ext Tryz.func6 (by kernel_rfl) (by kernel_rfl) fun args k hk => ?_
 unfold awC at hk
 split at hk <;> first | (cases hk; done) | skip
 refine ⟨.bool true, rfl, hk, fun C σ vs _ ha => ?_⟩
 obtain rfl : vs = [] := ha.nil_inv
 rfl
theorem vdK (W : World) : VdOk (stK W) := fun s σ hs => by
 have e : vdV [.string s] = some (.bool (vdF s)) := if_pos hs
 show RG.app σ (keepX vdV [.string s]) = _
 unfold keepX
 rw [e]
 rfl
theorem extK_ok {W : World} (hst : GoodSt W stA) (ht : Lib.Utf8Tabs 0 1 W) : CallOk Tryz.prog W (stK W).ext := by
 intro f
 by_cases h1 : f = 6
 ·subst h1; exact keep_fn (awake_ok hst)
 by_cases h2 : f = 65
 ·subst h2; exact fnOk_vd ht
 ·intro args σ v σ' hx
  have h : exA f = false := by
   unfold exA
   simp [h1, h2]
  rw [hxK W f h] at hx
  cases hx

/-! ### The terminal -/
def celK : List Kd := [.str, .int .i64, .int .i64, .int .i64, .int .i64]
def rwsK : Kd := .sl [.sl celK]
section
variable {d : DV}
theorem sc_int {k : IntKind} (h : HasK 1048576 (.int k) d) : Cv d (kv k (numD d)) := by cases h; exact .of rfl
theorem sc_bool (h : HasK 1048576 .bool d) : Cv d (bv (boolD d)) := by cases h; exact .of rfl
theorem sc_str (h : HasK 1048576 .str d) : Cv d (sv (strD d)) := by cases h; exact .of rfl
theorem row_is (h : HasK 1048576 (.sl celK) d) : isRow d := by
 cases h with
 | sl ks g n hn h =>
  refine ⟨rfl, Nat.le_trans hn (by decide), fun i hi => ?_⟩
  have h0 := h i 0 _ hi rfl
  have h1 := h i 1 _ hi rfl
  have h2 := h i 2 _ hi rfl
  have h3 := h i 3 _ hi rfl
  have h4 := h i 4 _ hi rfl
  have e0 : ∀ {d : DV}, HasK 1048576 .str d → d = sv (strD d) ∧ (strD d).size ≤ 9000000 := fun h => by
   cases h with
   | str s hs => exact ⟨rfl, Nat.le_trans hs (by decide)⟩
  have e1 : ∀ {d : DV}, HasK 1048576 (.int .i64) d → d = iv (numD d) := fun h => by cases h; rfl
  exact ⟨(e0 h0).1, (e0 h0).2, e1 h1, e1 h2, e1 h3, e1 h4⟩
theorem rows_inv (h : HasK 1048576 rwsK d) : ∃ g n, d = .sl false g 1 n ∧ n ≤ 1048576 ∧ ∀ i, i < n → isRow (g i 0) := by
 unfold rwsK at h
 cases h with
 | sl ks g n hn h => exact ⟨g, n, rfl, hn, fun i hi => row_is (h i 0 _ hi rfl)⟩
theorem sc_rows (h : HasK 1048576 rwsK d) : Cv d (.sl false (rowsD (fun i => slT (slG d i 0)) fun i => rowD (slG d i 0)) 1 (slN d)) := by
 obtain ⟨g, n, rfl, -, hr⟩ := rows_inv h
 exact rows_cv hr
theorem rows_ok (h : HasK 1048576 rwsK d) : rowsOk (fun i => rowD (slG d i 0)) (slN d) := by
 obtain ⟨g, n, rfl, hn, hr⟩ := rows_inv h
 exact ⟨Nat.le_trans hn (by decide), fun i hi => (hr i hi).2.row⟩
theorem sc_tabs (h : HasK 1048576 (.sl [.bool]) d) : Cv d (.sl false (tabsD fun i => boolD (slG d i 0)) 1 (slN d)) := by
 cases h with
 | sl ks g n hn h =>
  refine Cv.sl fun i f hi hf => ?_
  obtain rfl : f = 0 := by
   have : f < 1 := hf
   omega
  exact sc_bool (h i 0 _ hi rfl)
theorem tabs_ok (h : HasK 1048576 (.sl [.bool]) d) : slN d ≤ 9000000 := by
 cases h with
 | sl ks g n hn h => exact Nat.le_trans hn (by decide)
theorem str_ok (h : HasK 1048576 .str d) : (strD d).size ≤ 9000000 := by
 cases h with
 | str s hs => exact Nat.le_trans hs (by decide)
end
def trmK : List Kd := [.int .i64, .int .i64, rwsK, .int .i64, .int .i64, rwsK, .int .i64, .int .i64, .bool, .int .i64, .int .i64, .bool, .int .i64, .int .i64, .int .i64, .bool, .int .u8, .int .u8, .int .i64, .int .i64, .int .i64, .int .i64, .bool, .bool, .bool, .bool, .bool, .bool, .bool, .bool, .int .u8, .int .u8, .int .i64, .int .i64, .int .i64, .sl [.bool], rwsK, .int .i64, .str, .str, .str, .str]
theorem cvl_of : ∀ {ds es : List DV}, ds.length = es.length → (∀ i, i < es.length → Cv (ds.getD i .any) (es.getD i .any)) → CvL ds es
 | [], [], _, _ => .nil
 | d :: ds, e :: es, hl, h => .cons (h 0 (Nat.zero_lt_succ _)) (cvl_of (by simpa using hl) fun i hi => h (i + 1) (by simpa using hi))
theorem has_getD {B : Nat} {ks : List Kd} {ds : List DV} (h : ∀ (i : Nat) k, ks[i]? = some k → ∃ d, ds[i]? = some d ∧ HasK B k d) : ∀ (i : Nat) k, ks[i]? = some k → HasK B k (ds.getD i .any) := fun i k hk => by
 obtain ⟨d, h1, h2⟩ := h i k hk
 rw [List.getD_eq_getElem?_getD, h1]
 exact h2
theorem tm_cv {ds : List DV} (hl : ds.length = 42) (hk : ∀ (i : Nat) k, trmK[i]? = some k → HasK 1048576 k (ds.getD i .any)) : CvL ds (tmOf ds).cells :=

 cvl_of hl fun i hi => by
  have hi : i < 42 := hi
  have hi : i = 0 ∨ i = 1 ∨ i = 2 ∨ i = 3 ∨ i = 4 ∨ i = 5 ∨ i = 6 ∨ i = 7 ∨ i = 8 ∨ i = 9 ∨ i = 10 ∨ i = 11 ∨ i = 12 ∨ i = 13 ∨ i = 14 ∨ i = 15 ∨ i = 16 ∨ i = 17 ∨ i = 18 ∨ i = 19 ∨ i = 20 ∨ i = 21 ∨ i = 22 ∨ i = 23 ∨ i = 24 ∨ i = 25 ∨ i = 26 ∨ i = 27 ∨ i = 28 ∨ i = 29 ∨ i = 30 ∨ i = 31 ∨ i = 32 ∨ i = 33 ∨ i = 34 ∨ i = 35 ∨ i = 36 ∨ i = 37 ∨ i = 38 ∨ i = 39 ∨ i = 40 ∨ i = 41 := by omega
  rcases hi with rfl | rfl | rfl | rfl | rfl | rfl | rfl | rfl | rfl | rfl | rfl | rfl | rfl | rfl | rfl | rfl | rfl | rfl | rfl | rfl | rfl | rfl | rfl | rfl | rfl | rfl | rfl | rfl | rfl | rfl | rfl | rfl | rfl | rfl | rfl | rfl | rfl | rfl | rfl | rfl | rfl | rfl
  ·exact sc_int (hk 0 _ rfl)
  ·exact sc_int (hk 1 _ rfl)
  ·exact sc_rows (hk 2 _ rfl)
  ·exact sc_int (hk 3 _ rfl)
  ·exact sc_int (hk 4 _ rfl)
  ·exact sc_rows (hk 5 _ rfl)
  ·exact sc_int (hk 6 _ rfl)
  ·exact sc_int (hk 7 _ rfl)
  ·exact sc_bool (hk 8 _ rfl)
  ·exact sc_int (hk 9 _ rfl)
  ·exact sc_int (hk 10 _ rfl)
  ·exact sc_bool (hk 11 _ rfl)
  ·exact sc_int (hk 12 _ rfl)
  ·exact sc_int (hk 13 _ rfl)
  ·exact sc_int (hk 14 _ rfl)
  ·exact sc_bool (hk 15 _ rfl)
  ·exact sc_int (hk 16 _ rfl)
  ·exact sc_int (hk 17 _ rfl)
  ·exact sc_int (hk 18 _ rfl)
  ·exact sc_int (hk 19 _ rfl)
  ·exact sc_int (hk 20 _ rfl)
  ·exact sc_int (hk 21 _ rfl)
  ·exact sc_bool (hk 22 _ rfl)
  ·exact sc_bool (hk 23 _ rfl)
  ·exact sc_bool (hk 24 _ rfl)
  ·exact sc_bool (hk 25 _ rfl)
  ·exact sc_bool (hk 26 _ rfl)
  ·exact sc_bool (hk 27 _ rfl)
  ·exact sc_bool (hk 28 _ rfl)
  ·exact sc_bool (hk 29 _ rfl)
  ·exact sc_int (hk 30 _ rfl)
  ·exact sc_int (hk 31 _ rfl)
  ·exact sc_int (hk 32 _ rfl)
  ·exact sc_int (hk 33 _ rfl)
  ·exact sc_int (hk 34 _ rfl)
  ·exact sc_tabs (hk 35 _ rfl)
  ·exact sc_rows (hk 36 _ rfl)
  ·exact sc_int (hk 37 _ rfl)
  ·exact sc_str (hk 38 _ rfl)
  ·exact sc_str (hk 39 _ rfl)
  ·exact sc_str (hk 40 _ rfl)
  ·exact sc_str (hk 41 _ rfl)
theorem tm_ok {ds : List DV} (hk : ∀ (i : Nat) k, trmK[i]? = some k → HasK 1048576 k (ds.getD i .any)) : (tmOf ds).ok :=

 ⟨rows_ok (hk 2 _ rfl), rows_ok (hk 5 _ rfl), rows_ok (hk 36 _ rfl), tabs_ok (hk 35 _ rfl), str_ok (hk 40 _ rfl), str_ok (hk 41 _ rfl)⟩
theorem trm_kinds : kinds Tryz.prog 8 38 = some trmK := by kernel_rfl
theorem tm_low {ds : List DV} (hk : ∀ (i : Nat) k, trmK[i]? = some k → HasK 1048576 k (ds.getD i .any)) : (tmOf ds).lowT := fun i hi => by
 have h := hk 2 _ rfl
 have hi : i < slN (ds.getD 2 .any) := hi
 show slT (slG (ds.getD 2 .any) i 0) = false
 generalize ds.getD 2 .any = d at h hi
 unfold rwsK at h
 cases h with
 | sl ks g n hn h =>
  have := h i 0 _ hi rfl
  show slT (g i 0) = false
  generalize g i 0 = e at this
  cases this
  rfl
/-! ### Bulk -/
theorem bulk_mem {H : Type} {d : DataW H} : ∀ {l : List (DataW H)}, d ∈ l → Rows.uptoBulk d ≤ Rows.uptoBulkAll l
 | x :: l, h => by
  rw [Rows.uptoBulkAll]
  rcases List.mem_cons.1 h with rfl | h
  ·exact Nat.le_add_right _ _
  ·exact Nat.le_trans (bulk_mem h) (Nat.le_add_left _ _)
theorem bulk_pos {H : Type} (d : DataW H) : 1 ≤ Rows.uptoBulk d := by
 cases d <;> (try unfold Rows.uptoBulk) <;> first | exact Nat.le_refl 1 | exact Nat.le_add_left _ _ | skip
 rename_i l
 cases l <;> first | exact Nat.le_add_left _ _ | exact Nat.le_refl 1
theorem bulk_len {H : Type} : ∀ (l : List (DataW H)), l.length ≤ Rows.uptoBulkAll l
 | [] => Nat.zero_le _
 | x :: l => by
  rw [Rows.uptoBulkAll, List.length_cons]
  have := bulk_len l
  have := bulk_pos x
  omega
theorem bulkOk {H : Type} : BkOk (H := H) Rows.uptoBulk :=

 ⟨fun l => by unfold Rows.uptoBulk; exact Nat.le_add_right _ _, fun l d h => by rw [Rows.uptoBulk]; exact Nat.le_trans (bulk_mem h) (Nat.le_add_right _ _),
  fun l sp d h => by rw [Rows.uptoBulk]; have := bulk_mem h; omega, fun l sp => by rw [Rows.uptoBulk]; have := bulk_len l; omega⟩
theorem bulk_le {H : Type} {d : DataW H} {p : List MemPlace} (hb : Rows.uptoBulk d ≤ 1048576) : Rows.uptoBulk (d, p).1 ≤ 1048576 := hb

set_option maxRecDepth 100000 in
theorem open_struct {H : Type} {enc : TypeId × Value → H} {W : World} {b0 n : Nat} {t : TypeId} {fs : Array Field} {ks : List Kd} {v : Value} {d : DataW H} {p : List MemPlace} {r : Reach} (ht : Tryz.prog.underlying t = some (.struct fs)) (hk : kinds Tryz.prog n t = some ks)
  (hv : Value.okWide Tryz.prog W r b0 t v) (h : DataW.Trod enc Tryz.prog W 0 (fun _ => true) true t v d p) (hb : Rows.uptoBulk d ≤ 1048576) :
  ∃ ds w, ds.length = ks.length ∧ (∀ (i : Nat) k, ks[i]? = some k → HasK 1048576 k (ds.getD i .any)) ∧ (∀ es, CvL ds es → DR (baseC (stK W)) noMu (.agg es) w) ∧ VR (fun _ => none) w v := by
 obtain ⟨cs, rfl, -⟩ := Go.WideShapes.okWide_struct ht hv
 obtain ⟨fuel, hf⟩ := h
 obtain ⟨ds, ws, a1, a2, a3, a4, a5⟩ := opn (B := 1048576) (bk := Rows.uptoBulk) bulkOk (extOf extK) n t ks hk fuel (Value.agg cs).cells.toList (d, p) hf (bulk_le hb)
 have a4 : cs.size = ks.length := by simpa [Value.cells] using a4
 have hw : ws.length = cs.size := by rw [← a3.1, a1, a4]
 refine ⟨ds, .agg ws.toArray, a1, has_getD a2, fun es he => ?_, ?_⟩
 ·have hd := he.drl a3
  exact .agg _ _ (by simpa using hd.1) fun i d x h1 h2 => hd.2 i d x h1 (by simpa using h2)
 ·refine .agg _ _ (by simpa using hw) fun i u v h1 h2 => ?_
  obtain ⟨u', e1, e2⟩ := a5 i v (by simpa [Value.cells] using h2)
  have : u = u' := by
   rw [List.getElem?_toArray, e1] at h1
   exact (Option.some.inj h1).symm
  subst this
  exact (stV_vr e2 _).1
end Go.Proofs.YtfdldnomelnbgaaGreatDoor
