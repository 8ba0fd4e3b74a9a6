/-
  What is known of the memory when a law of narratorlaw04 is called; arguments as the evaluator sees them.
  Condition: the row's own, that the table 'codes' holds its eight numbers.
-/
import Derived.Test.YtolmaphpfhplpaaDoorLaw
import Derived.Test.YtolmaphpfhplpaaDoorAeClaim
import Derived.Test.YtolmaphpfhplpaaDoorCards
import Derived.Test.YtolmaphpfhplpaaDoorTie
import Derived.Lib.LaidTab
import Derived.Lib.SmallJoins
import Derived.ChangeSlices
import Derived.Deep.DeepHandedRow
import Derived.WalkKit
namespace Go.Proofs.YtolmaphpfhplpaaDoor
open Go Go.AE Go.DE Go.RowKit Go.ChangeShapes Go.Joins

theorem own : ownKnob Tryd.prog.godebug = none := by kernel_rfl
theorem follows : Tryd.prog.follows .mixedOrders = true := by kernel_rfl
theorem laidOut : laidOutB Tryd.prog = true := by kernel_rfl
theorem gTab : Tryd.prog.globalNamed "narrator/attr.codes" = some 0 := by kernel_rfl
theorem cells3 : Tryd.prog.cellsOf 3 = 1 := by kernel_rfl

/-- The numbers that the memory holds. -/
def stW (W : World) : AE.Stat := fun b i => match W.cell? ⟨b, i, none⟩ with
  | some (.int k n) => some (.int k n)
  | _ => none
theorem stW_of {W : World} {b i : Nat} {k : IntKind} {n : Int} (h : W.cell? ⟨b, i, none⟩ = some (.int k n)) : stW W b i = some (.int k n) := by
  unfold stW
  rw [h]
theorem stW_good (W : World) : GoodSt W (stW W) := by
  intro b i v hv
  unfold stW at hv
  split at hv
  · rename_i k n hc
    obtain rfl := Option.some.inj hv
    exact ⟨_, hc, fun ρ => flat_VR ρ rfl⟩
  · cases hv
def codes : List Value := [1, 2, 3, 4, 5, 7, 8, 9].map (Value.int .i64)
theorem table {W : World} (h : laidMetH Tryd.prog [("narrator/attr.codes", Rows.laid_narrator_attr_codes)] W) : Lib.TabIs Tryd.prog W "narrator/attr.codes" .i64 [1, 2, 3, 4, 5, 7, 8, 9] := by
  obtain ⟨t, ht⟩ : ∃ t, (Tryd.prog.globals[0]?).map (·.type) = some t ∧ Tryd.prog.underlying t = some (.array 8 3) ∧ Tryd.prog.cellsOf t = 8 := by
    refine ⟨((Tryd.prog.globals[0]?).map (·.type)).getD 0, ?_, ?_, ?_⟩ <;> kernel_rfl
  exact Lib.tabIs_of_head (rest := []) gTab ht.1 ht.2.1 (show Tryd.prog.underlying 3 = some (.int .i64) by kernel_rfl) cells3 ht.2.2 h
theorem codesIn {W : World} (h : laidMetH Tryd.prog [("narrator/attr.codes", Rows.laid_narrator_attr_codes)] W) : CodesIn (stW W) := by
  intro i hi
  have ht := table h
  unfold Lib.TabIs World.var? at ht
  rw [gTab] at ht
  simp only [Option.bind_some] at ht
  split at ht
  · rename_i cs ty fr hw
    obtain rfl := Option.some.inj ht
    refine stW_of ?_
    unfold World.cell?
    simp only [hw, Option.isSome_none, Bool.false_eq_true, if_false]
    have h8 : i = 0 ∨ i = 1 ∨ i = 2 ∨ i = 3 ∨ i = 4 ∨ i = 5 ∨ i = 6 ∨ i = 7 := by omega
    rcases h8 with rfl | rfl | rfl | rfl | rfl | rfl | rfl | rfl <;> rfl
  · cases ht

/-- The attribute's shape. -/
def attrV (x y f : Int) : Value := .agg #[.int .i64 x, .int .i64 y, .int .i64 f]
theorem attrShape : ∃ f0 f1 f2 : Field, Tryd.prog.underlying 23 = some (.struct #[f0, f1, f2]) ∧ Go.Deep.oneCellFields Tryd.prog #[f0, f1, f2] = true ∧ Tryd.prog.cellsOf 23 = 3 ∧ Tryd.prog.underlying f0.type = some (.int .i64) ∧ Tryd.prog.underlying f1.type = some (.int .i64) ∧ Tryd.prog.underlying f2.type = some (.int .i64) := by
  refine ⟨_, _, _, Tryd.underlying23, ?_, ?_, ?_, ?_, ?_⟩ <;> kernel_rfl
theorem open_attr {H : Type} {enc : TypeId × Value → H} {w : World} {base b0 : Nat} {spare : Nat → Bool} {held : Bool} {v : Value} {d : DataW H} {p : List MemPlace} {r : Reach}
    (hv : Value.okWide Tryd.prog w r b0 23 v) (h : DataW.Trod enc Tryd.prog w base spare held 23 v d p) : ∃ x y f, v = attrV x y f := by
  obtain ⟨f0, f1, f2, hs, hone, hC, u0, u1, u2⟩ := attrShape
  obtain ⟨v0, v1, v2, y0, y1, y2, n, rfl, rfl, rfl, t0, t1, t2⟩ := open_agg3 hs hone hC hv h
  obtain ⟨a, ha, -⟩ := DataW.trod_int u0 t0
  obtain ⟨b, hb, -⟩ := DataW.trod_int u1 t1
  obtain ⟨c, hc, -⟩ := DataW.trod_int u2 t2
  obtain ⟨rfl⟩ : v0 = _ := by simpa using ha
  obtain ⟨rfl⟩ : v1 = _ := by simpa using hb
  obtain ⟨rfl⟩ : v2 = _ := by simpa using hc
  exact ⟨a, b, c, rfl⟩
theorem attr_dr {C : Cf} {μ : Mu} (x y f : Int) : DR C μ (.agg [iv x, iv y, iv f]) (attrV x y f) := by
  refine .agg _ _ rfl fun i d v hd hv => ?_
  have h3 : i = 0 ∨ i = 1 ∨ i = 2 ∨ 3 ≤ i := by omega
  rcases h3 with rfl | rfl | rfl | h
  · obtain rfl := Option.some.inj hd
    obtain rfl := Option.some.inj hv
    exact .v _ rfl
  · obtain rfl := Option.some.inj hd
    obtain rfl := Option.some.inj hv
    exact .v _ rfl
  · obtain rfl := Option.some.inj hd
    obtain rfl := Option.some.inj hv
    exact .v _ rfl
  · rw [List.getElem?_eq_none (by simpa using h)] at hd
    cases hd
theorem attr_vr {ρ : Ren} (x y f : Int) : VR ρ (attrV x y f) (attrV x y f) := flat_VR ρ rfl
theorem readable23 : Tryd.prog.readableRec 23 = true := by kernel_rfl

/-- A law that answers true. -/
theorem law_calls {H : Type} {enc : TypeId × Value → H} {W : World} {f : FuncId} {fn : Func} {F : ConF} {s : ChangeSpec} {args : Array Value} {ds gs : List (DataW H)} {before : List MemPlace} {dv : List DV} {vs : List Value}
    (hf : Tryd.prog.funcs[f]? = some fn) (hn : (fn.name == "runtime.NumGoroutine") = false) (hb : fn.body.isNone = false) (hres : fn.resultTypes = #[4]) (hread : ∀ t ∈ fn.params.toList, Tryd.prog.readableRec t = true ∧ t < Tryd.prog.types.size)
    (hW : DataW.Whole enc Tryd.prog fn.params.toList s.vars false W args.toList ds gs before) (hv : s.vars = []) (hfn : s.fn H (ds ++ []) = { results := [.lit (.bool true)], args := ds })
    (hF : ConOk Tryd.prog (stW W) f F) (hx : ∀ k, k (fun _ => (.v (.bool true), [])) = some () → F dv k = some ()) (ha : DRL (baseC (stW W)) noMu dv vs) (hvs : VRL (fun _ => none) vs args.toList) :
    Calls Tryd.prog f args W fun e W' => ∃ v, e = .returned v ∧ s.post enc Tryd.prog fn false true false false W args v W' := by
  have hc := calls_of_con (w := W) (stW_good W) follows hf hn hb hF hx ha hvs (.refl _ _)
  rw [show args.toList.toArray = args by simp] at hc
  exact hc.mono fun e W' ⟨he, hb'⟩ => ⟨_, he, post_true laidOut hread hW hv hfn hres Tryd.underlying4 hb'⟩

/-- A WORLD FOR THE WITNESS. -/
noncomputable def laidWorld (os : Os) : World :=
  { World.holding Tryd.prog os ⟨#[], #[], []⟩ with heap := (World.holding Tryd.prog os ⟨#[], #[], []⟩).heap.modify 0 fun
      | .cells _ t frozen => .cells codes.toArray t frozen
      | o => o }
def zeroD {H : Type} : DataW H := .agg [.lit (.int .i64 0), .lit (.int .i64 0), .lit (.int .i64 0)]
end Go.Proofs.YtolmaphpfhplpaaDoor
