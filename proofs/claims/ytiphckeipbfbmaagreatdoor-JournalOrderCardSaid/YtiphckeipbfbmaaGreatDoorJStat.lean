/-
  What is known of the memory when a law of narratorlaw58 is called; a law that answers true; the witness.
  Conditions: the row's own, that the library's tables hold what the row lists.
-/
import Derived.Test.YtiphckeipbfbmaaGreatDoorJBase
import Derived.Test.YtiphckeipbfbmaaGreatDoorCards
import Derived.Test.YtiphckeipbfbmaaGreatDoorTie
import Derived.Lay
import Derived.Test.YtiphckeipbfbmaaGreatDoorAeClaim
import Derived.Lib.SmallJoins
import Derived.WalkKit
import Derived.MakeChecks
import Derived.Deep.DeepHandedRow
import Derived.ChangeMaps5
namespace Go.Proofs.YtiphckeipbfbmaaGreatDoor
open Go Go.AE Go.DE Go.RowKit Go.ChangeShapes Go.Joins

theorem own : ownKnob Tryz.prog.godebug = none := by kernel_rfl
theorem laidOut : laidOutB Tryz.prog = true := by kernel_rfl

theorem laidVar_of_mem {P : Program} {W : World} {n : String} {d : DataW Unit} : ∀ {l : List (String × DataW Unit)} {ps : List MemPlace}, DataW.LaidVars P W l ps → (n, d) ∈ l →
    ∃ g t cs fuel p, P.globalNamed n = some g ∧ (P.globals[g]?).map (·.type) = some t ∧ W.var? P n = some cs ∧ DataW.trod (fun _ => ()) P W 0 (fun _ => true) false fuel t cs.toList = some (d, p)
  | [], _, _, hm => by cases hm
  | (n', d') :: l, ps, h, hm => by
    obtain ⟨g, t, cs, fuel, p, q, hg, ht, hv, hd, hr, _⟩ := h
    rcases List.mem_cons.1 hm with e | hm
    · cases e
      exact ⟨g, t, cs, fuel, p, hg, ht, hv, hd⟩
    · exact laidVar_of_mem hr hm
theorem tabIs_of_mem {P : Program} {W : World} {name : String} {k : IntKind} {zs : List Int} {l : List (String × DataW Unit)} {g : Nat} {t e : TypeId} {n : Nat} (hm : (name, Lib.tabData k zs) ∈ l)
    (hg : P.globalNamed name = some g) (hty : (P.globals[g]?).map (·.type) = some t) (ht : P.underlying t = some (.array n e)) (he : P.underlying e = some (.int k)) (hce : P.cellsOf e = 1) (hct : P.cellsOf t = n)
    (h : laidMet P l W) : Lib.TabIs P W name k zs := by
  obtain ⟨ps, hv, _⟩ := h
  obtain ⟨g', t', cs, fuel, p, hg', ht', hvar, hd⟩ := laidVar_of_mem hv hm
  obtain rfl := Option.some.inj (hg.symm.trans hg')
  obtain rfl := Option.some.inj (hty.symm.trans ht')
  have hc := Lib.cells_of_tab ht he hce hct hd
  unfold Lib.TabIs
  rw [hvar]
  refine congrArg some ?_
  cases cs
  simp only at hc
  rw [hc]
theorem pow_data : Rows.laid_internal_strconv_uint64pow10 = (Lib.tabData .u64 Lib.pow10Tab : DataW Unit) := by kernel_rfl
theorem sp_data : Rows.laid_strings_asciiSpace = (Lib.tabData .u8 Lib.asciiSpaceTab : DataW Unit) := by kernel_rfl
theorem tabs_of {l : List (String × DataW Unit)} {W : World} (h1 : (l.all fun x => x.2.handleName?.isNone) = true) (h2 : ("internal/strconv.uint64pow10", Rows.laid_internal_strconv_uint64pow10) ∈ l) (h3 : ("strings.asciiSpace", Rows.laid_strings_asciiSpace) ∈ l)
    (h : laidMetH Tryz.prog l W) : Tabs W := by
  rw [MakeChecks.laidMetH_plain _ _ _ h1] at h
  rw [pow_data] at h2
  rw [sp_data] at h3
  obtain ⟨t, ht⟩ : ∃ t, (Tryz.prog.globals[3]?).map (·.type) = some t ∧ (∃ e, Tryz.prog.underlying t = some (.array 20 e) ∧ Tryz.prog.underlying e = some (.int .u64) ∧ Tryz.prog.cellsOf e = 1) ∧ Tryz.prog.cellsOf t = 20 := by
    refine ⟨((Tryz.prog.globals[3]?).map (·.type)).getD 0, ?_, ⟨(match Tryz.prog.underlying (((Tryz.prog.globals[3]?).map (·.type)).getD 0) with | some (.array _ e) => e | _ => 0), ?_, ?_, ?_⟩, ?_⟩ <;> kernel_rfl
  obtain ⟨u, hu⟩ : ∃ t, (Tryz.prog.globals[11]?).map (·.type) = some t ∧ (∃ e, Tryz.prog.underlying t = some (.array 256 e) ∧ Tryz.prog.underlying e = some (.int .u8) ∧ Tryz.prog.cellsOf e = 1) ∧ Tryz.prog.cellsOf t = 256 := by
    refine ⟨((Tryz.prog.globals[11]?).map (·.type)).getD 0, ?_, ⟨(match Tryz.prog.underlying (((Tryz.prog.globals[11]?).map (·.type)).getD 0) with | some (.array _ e) => e | _ => 0), ?_, ?_, ?_⟩, ?_⟩ <;> kernel_rfl
  obtain ⟨e, he⟩ := ht.2.1
  obtain ⟨e', he'⟩ := hu.2.1
  exact ⟨tabIs_of_mem h2 (g := 3) (by kernel_rfl) ht.1 he.1 he.2.1 he.2.2 ht.2.2 h, tabIs_of_mem h3 (g := 11) (by kernel_rfl) hu.1 he'.1 he'.2.1 he'.2.2 hu.2.2 h⟩

/-- A law that answers true. -/
theorem law_calls {H : Type} {enc : TypeId × Value → H} {W : World} {f : FuncId} {fn : Func} {F : ConF} {s : ChangeSpec} {args : Array Value} {ds gs : List (DataW H)} {before : List MemPlace} {dv : List DV} {vs : List Value}
    (hf : Tryz.prog.funcs[f]? = some fn) (hn : (fn.name == "runtime.NumGoroutine") = false) (hb : fn.body.isNone = false) (hres : fn.resultTypes = #[4]) (hread : ∀ t ∈ fn.params.toList, Tryz.prog.readableRec t = true ∧ t < Tryz.prog.types.size)
    (hW : DataW.Whole enc Tryz.prog fn.params.toList s.vars false W args.toList ds gs before) (hv : s.vars = []) (hfn : s.fn H (ds ++ []) = { results := [.lit (.bool true)], args := ds })
    (hT : Tabs W) (hF : ConOk Tryz.prog stJ f F) (hx : ∀ k, k (fun _ => (.v (.bool true), [])) = some () → F dv k = some ()) (ha : DRL (baseC stJ) noMu dv vs) (hvs : VRL (fun _ => none) vs args.toList) :
    Calls Tryz.prog f args W fun e W' => ∃ v, e = .returned v ∧ s.post enc Tryz.prog fn false true false false W args v W' := by
  have hc := calls_of_con (w := W) (stJ_good W) (ext_ok hT) follows hf hn hb hF hx ha hvs (.refl _ _)
  rw [show args.toList.toArray = args by simp] at hc
  exact hc.mono fun e W' ⟨he, hb'⟩ => ⟨_, he, post_true laidOut hread hW hv hfn hres Tryz.underlying4 hb'⟩

/-- The witness. -/
theorem witness_laid {H : Type} {enc : TypeId × Value → H} {os : Os} {f : FuncId} {fn : Func} {s : OpenSpec} {conds : List PathCond} {laid : List (String × DataW Unit)} (args : Array Value)
    (hsh : ((World.laidAll Tryz.prog os laid).forCall (fun _ _ => 0) ⟨#[], args, []⟩).Shaped Tryz.prog)
    (hok : Input.okWideB Tryz.prog ((World.laidAll Tryz.prog os laid).forCall (fun _ _ => 0) ⟨#[], args, []⟩) f ⟨#[], args, []⟩ = true)
    (hrow : s.preRow enc Tryz.prog fn conds false laid ((World.laidAll Tryz.prog os laid).forCall (fun _ _ => 0) ⟨#[], args, []⟩).memory args) :
    ∃ (w : World) (tape : Tape) (i : Input), w.os = os ∧ (w.forCall tape i).Shaped Tryz.prog ∧ i.vars = [] ∧ Input.okWide Tryz.prog (w.forCall tape i) .any w.heap.size f i ∧
      s.preRow enc Tryz.prog fn conds false laid (w.forCall tape i).memory i.args ∧ ({ modest := false } : Assume).holds Tryz.prog (lone (Frame.enter Tryz.prog f i.args .normal) [] (w.forCall tape i)) :=
  ⟨World.laidAll Tryz.prog os laid, fun _ _ => 0, ⟨#[], args, []⟩, World.laidAll_os _ _ _, hsh, (Input.okWide_of_okWideB (base := 0) hok).1, (Input.okWide_of_okWideB hok).2, hrow, by
    simp only [Assume.holds]
    exact ⟨by simp, by simp, fun _ => Modest.zero, by simp, by simp⟩⟩
end Go.Proofs.YtiphckeipbfbmaaGreatDoor
