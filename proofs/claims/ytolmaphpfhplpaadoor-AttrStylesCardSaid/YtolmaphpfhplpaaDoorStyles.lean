/-
  'narratorlaw04.AttrStyles': for every two attributes the law answers true and leaves them as they were.
  Condition: the package-level table 'codes' holds its eight numbers.
-/
import Derived.Test.YtolmaphpfhplpaaDoorBase
import Derived.Lib.SmallJoins
import Derived.Deep.DeepHandedRow
namespace Go.Proofs.YtolmaphpfhplpaaDoor
open Go Go.AE Go.RowKit Go.ChangeShapes Go.Joins

def band (f m : Int) : Int := IntKind.i64.wrap ↑(BitVec.ofInt IntKind.i64.bits f &&& BitVec.ofInt IntKind.i64.bits m).toNat
def bor (f m : Int) : Int := IntKind.i64.wrap ↑(BitVec.ofInt IntKind.i64.bits f ||| BitVec.ofInt IntKind.i64.bits m).toNat
def bxor (f m : Int) : Int := IntKind.i64.wrap ↑(BitVec.ofInt IntKind.i64.bits f ^^^ BitVec.ofInt IntKind.i64.bits m).toNat
def bnot (f m : Int) : Int := IntKind.i64.wrap ↑(BitVec.ofInt IntKind.i64.bits f &&& ~~~BitVec.ofInt IntKind.i64.bits m).toNat

def styF (f : Int) : Int := if band f 64 != 0 then 3 else if band f 32 != 0 then 2 else if band f 29 != 0 then 1 else 0
theorem style_tree (x y f : Int) : bodyV Tryd.prog st0 (tblA []) 10 Tryd.f19 [attrV x y f] =
    bif band f 64 != 0 then some (.int .i64 3) else bif band f 32 != 0 then some (.int .i64 2) else bif band f 29 != 0 then some (.int .i64 1) else some (.int .i64 0) := by
  kernel_rfl
theorem styleOk {W : World} (hst : GoodSt W st0) : FnOk Tryd.prog W 19 (flatFn (onAttr fun _ _ f => styF f)) :=
  fnOk_flat 10 (tblA_nil _ _) hst follows Tryd.func19 fun args v hv => by
    obtain ⟨x, y, f, rfl, rfl⟩ := onAttr_eq hv
    refine ⟨rfl, rfl, (style_tree x y f).trans ?_⟩
    unfold styF
    cases band f 64 != 0 <;> cases band f 32 != 0 <;> cases band f 29 != 0 <;> rfl

def lawCall (chk sty : Int → Int → Int → Int) : CallA := tblA [(12, flatFn awFn), (15, flatFn (onAttr chk)), (19, flatFn (onAttr sty))]
theorem law_tree (chk sty : Int → Int → Int → Int) (x y f x' y' f' : Int) : bodyV Tryd.prog st0 (lawCall chk sty) 10 Tryd.f10 [attrV x y f, attrV x' y' f'] =
    bif chk x y f != 0 then some (Value.bool true)
    else
      bif bif false then true else chk x' y' f' != 0 then some (Value.bool true)
      else
        bif bif bif bif decide (x = x) then bif decide (y = y) then bif decide (f = f) then true else false else false else false then true else false then true else false then
          bif sty x' y' (bxor f (band f' 130)) != sty x y f then some (Value.bool false)
          else
            bif sty x y (bor f 64) == 3 then
              bif bif true then sty x y (bor (bnot f 64) 32) == 2 else false then
                bif bif true then (sty x y f == 0) == (bnot f 130 == 0) else false then
                  bif bif bif decide (f = f) then true else false then true else false then some (Value.bool (bif true then true else false)) else none
                else
                  bif bif bif decide (f = f) then true else false then true else false then some (Value.bool false) else none
              else some (Value.bool false)
            else some (Value.bool false)
        else none := by
  kernel_rfl

theorem bits_mask : ∀ n, n < 256 → band (n : Nat) 130 ∈ ([0, 2, 128, 130] : List Int) := by decide +kernel
theorem bits_xor : ∀ m ∈ ([0, 2, 128, 130] : List Int), ∀ n, n < 256 → styF (bxor (n : Nat) m) = styF (n : Nat) := by decide +kernel
theorem bits_own : ∀ n, n < 256 → styF (bor (n : Nat) 64) = 3 ∧ styF (bor (bnot (n : Nat) 64) 32) = 2 ∧ ((styF (n : Nat) == 0) == (bnot (n : Nat) 130 == 0)) = true := by decide +kernel

theorem check_zero {x y f : Int} (h : checkF x y f = 0) : ∃ n : Nat, f = n ∧ n < 256 := by
  unfold checkF at h
  have : 0 ≤ f ∧ f ≤ 255 := by
    repeat' split at h
    all_goals first | omega | (exact absurd h (by decide))
  exact ⟨f.toNat, by omega, by omega⟩

theorem law_true (x y f x' y' f' : Int) : bodyV Tryd.prog st0 (lawCall checkF fun _ _ f => styF f) 10 Tryd.f10 [attrV x y f, attrV x' y' f'] = some (.bool true) := by
  rw [law_tree]
  by_cases h1 : checkF x y f = 0
  · by_cases h2 : checkF x' y' f' = 0
    · obtain ⟨n, rfl, hn⟩ := check_zero h1
      obtain ⟨m, rfl, hm⟩ := check_zero h2
      have e1 := bits_xor _ (bits_mask m hm) n hn
      obtain ⟨e2, e3, e4⟩ := bits_own n hn
      simp [h1, h2, e1, e2, e3, e4]
    · have h3 : (checkF x' y' f' != 0) = true := by simpa using h2
      simp [h1, h3]
  · have h3 : (checkF x y f != 0) = true := by simpa using h1
    simp [h3]

def lawFn : List Value → Option Value
  | [.agg ⟨[.int .i64 _, .int .i64 _, .int .i64 _]⟩, .agg ⟨[.int .i64 _, .int .i64 _, .int .i64 _]⟩] => some (.bool true)
  | _ => none
theorem lawOk {W : World} (hst : GoodSt W st0) : FnOk Tryd.prog W 10 (flatFn lawFn) :=
  fnOk_flat 10 (call := lawCall checkF fun _ _ f => styF f) (tblA_cons (awakeOk hst) (tblA_cons (checkOk hst) (tblA_cons (styleOk hst) (tblA_nil _ _)))) hst follows Tryd.func10 fun args v hv => by
    unfold lawFn at hv
    split at hv
    · obtain rfl := Option.some.inj hv
      exact ⟨rfl, rfl, law_true _ _ _ _ _ _⟩
    · cases hv

/-- The attribute's shape. -/
theorem attrShape : ∃ f0 f1 f2 : Field, Tryd.prog.underlying 23 = some (.struct #[f0, f1, f2]) ∧ Go.Deep.oneCellFields Tryd.prog #[f0, f1, f2] = true ∧ Tryd.prog.cellsOf 23 = 3 ∧ Tryd.prog.underlying f0.type = some (.int .i64) ∧ Tryd.prog.underlying f1.type = some (.int .i64) ∧ Tryd.prog.underlying f2.type = some (.int .i64) := by
  refine ⟨_, _, _, Tryd.underlying23, ?_, ?_, ?_, ?_, ?_⟩ <;> kernel_rfl
theorem open_attr {H : Type} {enc : TypeId × Value → H} {w : World} {base b0 : Nat} {spare : Nat → Bool} {held : Bool} {v : Value} {d : DataW H} {p : List MemPlace} {r : Reach}
    (hv : Value.okWide Tryd.prog w r b0 23 v) (h : DataW.Trod enc Tryd.prog w base spare held 23 v d p) : ∃ x y f, v = attrV x y f := by
  obtain ⟨f0, f1, f2, hs, hone, hC, u0, u1, u2⟩ := attrShape
  obtain ⟨v0, v1, v2, y0, y1, y2, n, rfl, rfl, rfl, t0, t1, t2⟩ := open_agg3 hs hone hC hv h
  obtain ⟨a, ha, -⟩ := DataW.trod_int u0 t0
  obtain ⟨b, hb, -⟩ := DataW.trod_int u1 t1
  obtain ⟨c, hc, -⟩ := DataW.trod_int u2 t2
  obtain ⟨rfl⟩ : v0 = _ := by simpa using ha
  obtain ⟨rfl⟩ : v1 = _ := by simpa using hb
  obtain ⟨rfl⟩ : v2 = _ := by simpa using hc
  exact ⟨a, b, c, rfl⟩
theorem readable23 : Tryd.prog.readableRec 23 = true := by kernel_rfl

theorem contract (H : Type) (enc : TypeId × Value → H) (W : World) (base : Nat) (args : Array Value) (ds gs : List (DataW H)) (before : List MemPlace)
    (hval : ∀ (j : Nat) t v, Tryd.f10.params[j]? = some t → args[j]? = some v → Value.okWide Tryd.prog W .any base t v)
    (hW : DataW.Whole enc Tryd.prog Tryd.f10.params.toList Rows.attrStylesSpec.vars false W args.toList ds gs before) (hL : laidMetH Tryd.prog Rows.attrStylesRow.laid W) :
    Calls Tryd.prog 10 args W fun e W' => ∃ v, e = .returned v ∧ Rows.attrStylesSpec.post enc Tryd.prog Tryd.f10 false true false false W args v W' := by
  have hW' := hW
  obtain ⟨p, q, hA, hV, rfl, hfz, hnd⟩ := hW
  rw [Tryd.params10] at hA hval
  obtain ⟨v0, vs0, d0, ds0, p0, q0, hargs, rfl, rfl, h0, r0⟩ := trodAll_cons hA
  obtain ⟨v1, vs1, d1, ds1, p1, q1, rfl, rfl, rfl, h1, r1⟩ := trodAll_cons r0
  obtain ⟨rfl, rfl, rfl⟩ := trodAll_nil r1
  obtain rfl : args = #[v0, v1] := by cases args; simp_all
  obtain ⟨x, y, f, rfl⟩ := open_attr (hval 0 23 v0 rfl rfl) h0
  obtain ⟨x', y', f', rfl⟩ := open_attr (hval 1 23 v1 rfl rfl) h1
  have hc := calls_of_flat (lawOk (good hL)) (args := [attrV x y f, attrV x' y' f']) (v := .bool true) rfl rfl rfl (w := W) (.refl _ _)
  refine hc.mono fun e W' ⟨he, hb⟩ => ⟨_, he, ?_⟩
  refine post_true (tb := 4) laidOut ?_ hW' rfl rfl (by kernel_rfl) Tryd.underlying4 hb
  rw [Tryd.params10]
  intro t ht
  obtain rfl : t = 23 := by simpa using ht
  exact ⟨readable23, by decide +kernel⟩

/-- A WORLD FOR THE WITNESS. -/
noncomputable def laidWorld (os : Os) : World :=
  { World.holding Tryd.prog os ⟨#[], #[], []⟩ with heap := (World.holding Tryd.prog os ⟨#[], #[], []⟩).heap.modify 0 fun
      | .cells _ t frozen => .cells codes.toArray t frozen
      | o => o }
def wargs : Array Value := #[attrV 0 0 0, attrV 0 0 0]
def zeroD {H : Type} : DataW H := .agg [.lit (.int .i64 0), .lit (.int .i64 0), .lit (.int .i64 0)]
theorem laid_met (os : Os) : laidMet Tryd.prog Rows.attrStylesRow.laid ((laidWorld os).forCall (fun _ _ => 0) ⟨#[], wargs, []⟩).memory :=
  laidMet_of_run' 8 (by kernel_rfl) (by kernel_rfl)
theorem reads (os : Os) {H : Type} (enc : TypeId × Value → H) : ∃ places, DataW.whole enc Tryd.prog ((laidWorld os).forCall (fun _ _ => 0) ⟨#[], wargs, []⟩).memory Tryd.f10.params.toList Rows.attrStylesSpec.vars false wargs.toList 8 = some ([zeroD, zeroD], [], places) :=
  ⟨[], by kernel_rfl⟩

set_option maxRecDepth 100000 in
theorem lifted (os : Os) (started : os.Started) (H : Type) (enc : TypeId × Value → H) (F : Stop.Interp) :
    ReturnsInHanded {} Tryd.checked os 10 .any ((OpenSpec.ofChange Rows.attrStylesSpec).preRow enc Tryd.prog Tryd.f10 Rows.attrStylesRow.domain false Rows.attrStylesRow.laid) (((OpenSpec.ofChange Rows.attrStylesSpec).at F).post enc Tryd.prog Tryd.f10 false true false false) := by
  obtain ⟨places, hx⟩ := reads os enc
  refine returnsInHanded_of_row (C := Tryd.checked) (s := OpenSpec.ofChange Rows.attrStylesSpec) own started (by kernel_rfl) Tryd.func10
    (witness_row_at (enc := enc) (C := Tryd.checked) false (laidWorld os) wargs rfl (by kernel_rfl) (by kernel_rfl) (by kernel_rfl)
      (OpenSpec.preRow_of_cond 8 hx (by kernel_rfl) (fun k hk => by cases hk) (by kernel_rfl) (laid_met os))) ?_
  intro W base args ds gs before hval hW _ _ _ hL _ _
  exact contract H enc W base args ds gs before hval hW hL

theorem said : Rows.AttrStylesSaid :=
  OpenClaim.holds_of_cond 10 Tryd.f10 rfl rfl rfl rfl rfl rfl rfl ⟨rfl, rfl, rfl, rfl, rfl⟩ rfl rfl rfl rfl rfl (by kernel_rfl) Tryd.func10 (by kernel_rfl)
    (of_decide_eq_true (by kernel_rfl)) (by unfold Func.isWrapper; first | (rw [if_pos (by decide +kernel)]; kernel_rfl) | (rw [if_neg (by decide +kernel)]; exact ⟨rfl, rfl⟩))
    (fun os started H enc _ F => by rw [OpenClaim.pre_eq_preRow]; exact lifted os started H enc F)

theorem plain (f : FuncId) (fn : Func) (hf : Tryd.pinned.checked.prog.funcNamed "narrator/narratorlaw04.AttrStyles" = some f) (hfn : Tryd.pinned.checked.prog.funcs[f]? = some fn) :
    false = Tryd.pinned.checked.prog.looks [] ∧ ∀ (j : Nat) t, fn.params[j]? = some t → Tryd.pinned.checked.prog.wantsStandIn t = false := by
  obtain rfl : f = 10 := Option.some.inj ((show Tryd.prog.funcNamed "narrator/narratorlaw04.AttrStyles" = some 10 by kernel_rfl).symm.trans hf) |>.symm
  obtain rfl : fn = Tryd.f10 := (Option.some.inj (Tryd.func10.symm.trans hfn)).symm
  refine ⟨by kernel_rfl, fun j t ht => ?_⟩
  rw [Tryd.params10] at ht
  obtain rfl : t = 23 := by simpa using Array.mem_of_getElem? ht
  exact (show Tryd.prog.wantsStandIn 23 = false by kernel_rfl)

theorem card : Rows.AttrStylesCardSaid :=
  Claim7.holds_tied_plain_at .later [] _ _ _ _ said (fun _ h => by cases h) (by kernel_rfl) (fun _ h => by cases h) attrStyles_row_tie rfl ⟨rfl, rfl⟩ (by kernel_rfl) rfl plain (by kernel_rfl)
#print axioms card
end Go.Proofs.YtolmaphpfhplpaaDoor
