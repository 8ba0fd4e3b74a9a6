/-
  What the laws of narratorlaw58 lean on: the contracts of Go's library as a table, the chapter's examples (awake), the memory at the call.
  Conditions: the row's own, that the tables of powers of ten and of blanks hold what they hold.
-/
import Derived.Test.YtiphckeipbfbmaaGreatDoorDeExt
import Derived.Test.YtiphckeipbfbmaaGreatDoorJShelf
import Derived.Lib.LaidTab
import Derived.WalkSmall
import Derived.KernelRfl
namespace Go.Proofs.YtiphckeipbfbmaaGreatDoor
open Go Go.AE Go.DE Go.RowKit

def indexV : List Value → Option Value
  | [.string s, .string t] => match t with
    | ⟨⟨[c]⟩⟩ => some (.int .i64 (Lib.indexByte s.data.toList c))
    | _ => none
  | _ => none
def prefixV : List Value → Option Value
  | [.string s, .string t] => some (.bool (Lib.hasPrefix s.data.toList t.data.toList))
  | _ => none
def extG0 : ExtG := fun f args g n => match f with
  | 29 => keepX itoaV args
  | 33 => joinX g args
  | 70 => keepX indexV args
  | 17 => keepX prefixV args
  | 216 => keepX lowerV args
  | 240 => fieldsX n args
  | _ => none
def st0 : AE.Stat := ⟨fun _ _ => none, extOf extG0⟩
theorem st0_good (W : World) : GoodSt W st0 := fun b i v h => by cases h

theorem tabIs_below {W w : World} {name : String} {k : IntKind} {zs : List Int} (h : Lib.TabIs Tryz.prog W name k zs) (hb : Below W.heap.size W w) : Lib.TabIs Tryz.prog w name k zs := by
  unfold Lib.TabIs World.var? at h ⊢
  cases hg : Tryz.prog.globalNamed name with
  | none => rw [hg] at h; cases h
  | some g =>
    rw [hg] at h
    simp only [Option.bind_some] at h ⊢
    have hlt : g < W.heap.size := by
      rcases Nat.lt_or_ge g W.heap.size with hl | hl
      · exact hl
      · rw [Array.getElem?_eq_none hl] at h
        cases h
    rw [hb.block g hlt]
    exact h
structure Tabs (W : World) : Prop where
  pow : Lib.TabIs Tryz.prog W "internal/strconv.uint64pow10" .u64 Lib.pow10Tab
  sp : Lib.TabIs Tryz.prog W "strings.asciiSpace" .u8 Lib.asciiSpaceTab

theorem below_grow (w : World) (k : Nat) (os : Array Obj) : Below w.heap.size w (Go.Sort.grow (w.drewN k) os) :=
  ⟨rfl, rfl, rfl, by simp [Go.Sort.grow, World.drewN], fun i hi => by
    show (w.heap ++ os)[i]? = _
    rw [Array.getElem?_append_left hi]⟩
theorem ext0_ok {W : World} (h : Tabs W) : CallOk Tryz.prog W (extOf extG0) := by
  intro f
  by_cases h1 : f = 29
  · subst h1
    exact fnOk_itoa fun n w h0 h1 hw => (Tryz.strconv_Itoa n h0 h1 w (tabIs_below h.pow hw)).mono fun e w' ⟨he, k, os, hw'⟩ => ⟨he, hw' ▸ below_grow w k os⟩
  by_cases h2 : f = 33
  · subst h2
    exact fnOk_join (fun a c sep w => Tryz.strings_Join_none a c sep w) fun bk o c xs sep w hcells hbk hN hcap hlen => Tryz.strings_Join bk o c xs sep w hcells hbk hN hcap hlen
  by_cases h3 : f = 70
  · subst h3
    refine fnOk_keep fun args v hg => ?_
    unfold indexV at hg
    split at hg <;> first | (cases hg; done) | skip
    rename_i s t
    split at hg <;> first | (cases hg; done) | skip
    rename_i c
    obtain rfl := Option.some.inj hg
    exact ⟨rfl, rfl, fun w _ => (Tryz.stringslite_Index_one s c w).mono fun e w' ⟨he, hw⟩ => ⟨he, hw ▸ Below.refl _ _⟩⟩
  by_cases h4 : f = 17
  · subst h4
    refine fnOk_keep fun args v hg => ?_
    unfold prefixV at hg
    split at hg <;> first | (cases hg; done) | skip
    rename_i s t
    obtain rfl := Option.some.inj hg
    exact ⟨rfl, rfl, fun w _ => (Tryz.strings_HasPrefix s t w).mono fun e w' ⟨he, hw⟩ => ⟨he, hw ▸ Below.refl _ _⟩⟩
  by_cases h5 : f = 216
  · subst h5
    exact fnOk_lower fun s w hs ha => Tryz.strings_ToLower_ascii s w hs ha
  by_cases h6 : f = 240
  · subst h6
    exact fnOk_fields fun s w hs ha hw => Tryz.strings_Fields s w hs ha (tabIs_below h.sp hw)
  · intro args σ v σ' hx
    exfalso
    have : extG0 f args (hp σ) σ.length = none := by
      unfold extG0
      split <;> first | contradiction | rfl
    simp [extOf, RG.app, this] at hx

/-- The chapter's examples. -/
theorem awake_run : answerF Tryz.prog st0 extG0 400 30 11 [] (.bool true) = true := by kernel_rfl
def awakeV : List Value → Option Value
  | [] => some (.bool true)
  | _ => none
theorem follows : Tryz.prog.follows .mixedOrders = true := by kernel_rfl
theorem awake_ok {W : World} (h : Tabs W) : FnOk Tryz.prog W 11 (flatFn awakeV) := by
  refine fnOk_of ((runF_sound (n := 400) (st0_good W) (ext0_ok h) follows 30).fn 11 (by rw [Tryz.func11]; rfl)) fun args v hg => ?_
  unfold awakeV at hg
  split at hg <;> first | (cases hg; done) | skip
  obtain rfl := Option.some.inj hg
  exact ⟨rfl, rfl, answerF_run rfl awake_run⟩

def extG : ExtG := fun f args g n => match f with
  | 11 => keepX awakeV args
  | f => extG0 f args g n
/-- What is known ahead of a law. -/
def stJ : AE.Stat := ⟨fun _ _ => none, extOf extG⟩
theorem stJ_good (W : World) : GoodSt W stJ := fun b i v h => by cases h
theorem ext_ok {W : World} (h : Tabs W) : CallOk Tryz.prog W stJ.ext := by
  intro f
  by_cases h1 : f = 11
  · subst h1
    intro args σ v σ' hx
    refine awake_ok h args σ v σ' ?_
    obtain ⟨h1, rfl⟩ := keepX_app (g := awakeV) hx
    simp [flatFn, h1]
  · intro args σ v σ' hx
    refine ext0_ok h f args σ v σ' ?_
    have : extG f args (hp σ) σ.length = extG0 f args (hp σ) σ.length := by
      unfold extG
      split
      · contradiction
      · rfl
    show RG.app σ (extG0 f args (hp σ) σ.length) = _
    rw [← this]
    exact hx
end Go.Proofs.YtiphckeipbfbmaaGreatDoor
