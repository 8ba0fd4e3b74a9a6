/-
 'narratorlaw57.SecretsEquivalence': for every three terminals of bulk at most 1048576 the law answers true and leaves the input as it was.
 Conditions: the row's own (what is read is of bulk at most 1048576), and that the listed tables hold what it lists.
-/
import Derived.Test.YtfdldnomelnbgaaGreatDoorJLaw
import Derived.Lib.LaidU8T
namespace Go.Proofs.YtfdldnomelnbgaaGreatDoor
open Go Go.AE Go.DE Go.RowKit Go.ChangeShapes Go.Joins

theorem own : ownKnob Tryz.prog.godebug = none := by kernel_rfl
theorem laidOut : laidOutB Tryz.prog = true := by kernel_rfl
theorem laidVar_of_mem {P : Program} {W : World} {n : String} {d : DataW Unit} : ∀ {l : List (String × DataW Unit)} {ps : List MemPlace}, DataW.LaidVars P W l ps → (n, d) ∈ l →
   ∃ g t cs fuel p, P.globalNamed n = some g ∧ (P.globals[g]?).map (·.type) = some t ∧ W.var? P n = some cs ∧ DataW.trod (fun _ => ()) P W 0 (fun _ => true) false fuel t cs.toList = some (d, p)
 | [], _, _, hm => by cases hm
 | (n', d') :: l, ps, h, hm => by
   obtain ⟨g, t, cs, fuel, p, q, hg, ht, hv, hd, hr, _⟩ := h
   rcases List.mem_cons.1 hm with e | hm
   · cases e
     exact ⟨g, t, cs, fuel, p, hg, ht, hv, hd⟩
   · exact laidVar_of_mem hr hm
theorem tabIs_of_mem {P : Program} {W : World} {name : String} {k : IntKind} {zs : List Int} {l : List (String × DataW Unit)} {g : Nat} {t e : TypeId} {n : Nat} (hm : (name, Lib.tabData k zs) ∈ l)
   (hg : P.globalNamed name = some g) (hty : (P.globals[g]?).map (·.type) = some t) (ht : P.underlying t = some (.array n e)) (he : P.underlying e = some (.int k)) (hce : P.cellsOf e = 1) (hct : P.cellsOf t = n)
   (h : laidMet P l W) : Lib.TabIs P W name k zs := by
 obtain ⟨ps, hv, _⟩ := h
 obtain ⟨g', t', cs, fuel, p, hg', ht', hvar, hd⟩ := laidVar_of_mem hv hm
 obtain rfl := Option.some.inj (hg.symm.trans hg')
 obtain rfl := Option.some.inj (hty.symm.trans ht')
 have hc := Lib.cells_of_tab ht he hce hct hd
 unfold Lib.TabIs
 rw [hvar]
 refine congrArg some ?_
 cases cs
 simp only at hc
 rw [hc]
theorem codes_data : Rows.laid_narrator_attr_codes = (Lib.tabData .i64 [1, 2, 3, 4, 5, 7, 8, 9] : DataW Unit) := by kernel_rfl
theorem gCodes : Tryz.prog.globalNamed "narrator/attr.codes" = some 2 := by kernel_rfl
set_option maxRecDepth 100000 in
theorem plainL : (Rows.secretsEquivalenceUptoRow.laid.all fun x => x.2.handleName?.isNone) = true := by kernel_rfl
set_option maxRecDepth 100000 in
theorem codesL : Rows.secretsEquivalenceUptoRow.laid[3]? = some ("narrator/attr.codes", Rows.laid_narrator_attr_codes) := by kernel_rfl
theorem table {W : World} (h : laidMetH Tryz.prog Rows.secretsEquivalenceUptoRow.laid W) : Lib.TabIs Tryz.prog W "narrator/attr.codes" .i64 [1, 2, 3, 4, 5, 7, 8, 9] := by
 rw [MakeChecks.laidMetH_plain _ _ _ plainL] at h
 have hm := List.mem_of_getElem? codesL
 rw [codes_data] at hm
 obtain ⟨t, ht⟩ : ∃ t, (Tryz.prog.globals[2]?).map (·.type) = some t ∧ (∃ e, Tryz.prog.underlying t = some (.array 8 e) ∧ Tryz.prog.underlying e = some (.int .i64) ∧ Tryz.prog.cellsOf e = 1) ∧ Tryz.prog.cellsOf t = 8 := by
   refine ⟨((Tryz.prog.globals[2]?).map (·.type)).getD 0, ?_, ⟨(match Tryz.prog.underlying (((Tryz.prog.globals[2]?).map (·.type)).getD 0) with | some (.array _ e) => e | _ => 0), ?_, ?_, ?_⟩, ?_⟩ <;> kernel_rfl
 obtain ⟨e, he⟩ := ht.2.1
 exact tabIs_of_mem hm (g := 2) gCodes ht.1 he.1 he.2.1 he.2.2 ht.2.2 h
set_option maxRecDepth 100000 in
theorem accL : Rows.secretsEquivalenceUptoRow.laid[4]? = some ("unicode/utf8.acceptRanges", Rows.laid_unicode_utf8_acceptRanges) := by kernel_rfl
set_option maxRecDepth 100000 in
theorem firL : Rows.secretsEquivalenceUptoRow.laid[5]? = some ("unicode/utf8.first", Rows.laid_unicode_utf8_first) := by kernel_rfl
theorem acc_data : (Rows.laid_unicode_utf8_acceptRanges : DataW Unit) = Lib.acceptData := by kernel_rfl
theorem fir_data : Rows.laid_unicode_utf8_first = Lib.firstData := by kernel_rfl
theorem u8X : U8Extra Tryz.prog Tryz.lays196_ren where
 n3 := by kernel_rfl
 n4 := by kernel_rfl
 y3 := by kernel_rfl
 y4 := by kernel_rfl
 c5 := by kernel_rfl
 c119 := by kernel_rfl
 c138 := by kernel_rfl
theorem utf8_tabs {W : World} (h : laidMetH Tryz.prog Rows.secretsEquivalenceUptoRow.laid W) : Lib.Utf8Tabs 0 1 W := by
 rw [MakeChecks.laidMetH_plain _ _ _ plainL] at h
 have m4 := List.mem_of_getElem? accL
 have m5 := List.mem_of_getElem? firL
 rw [acc_data] at m4
 rw [fir_data] at m5
 exact utf8Tabs_of_readsT (.of196 Tryz.lays196) u8X (Lib.laidMet.reads h m5) (Lib.laidMet.reads h m4)
theorem stA_good {W : World} (h : laidMetH Tryz.prog Rows.secretsEquivalenceUptoRow.laid W) : GoodSt W stA := by
 intro b i v hb
 have ht := table h
 unfold Lib.TabIs World.var? at ht
 rw [gCodes] at ht
 simp only [Option.bind_some] at ht
 split at ht
 · rename_i cs ty fr hw
   obtain rfl := Option.some.inj ht
   have hc : ∀ (j : Nat) (u : Value), (#[Value.int .i64 1, .int .i64 2, .int .i64 3, .int .i64 4, .int .i64 5, .int .i64 7, .int .i64 8, .int .i64 9] : Array Value)[j]? = some u → W.cell? ⟨2, j, none⟩ = some u := fun j u hu => by
     unfold World.cell?
     simp only [hw, Option.isSome_none, Bool.false_eq_true, if_false]
     exact hu
   have key : ∃ n : Int, v = .int .i64 n ∧ W.cell? ⟨b, i, none⟩ = some (.int .i64 n) := by
     have hb : stC b i = some v := hb
     unfold stC at hb
     split at hb <;> first | (cases hb; done) | skip
     unfold codesV at hb
     split at hb <;> first | (cases hb; done) | skip
     all_goals
       obtain rfl := Option.some.inj hb
       exact ⟨_, rfl, hc _ _ rfl⟩
   obtain ⟨n, rfl, h2⟩ := key
   exact ⟨_, h2, fun ρ => .int _ _⟩
 · cases ht
theorem low_of {x : Tm} (h : x.ok) (l : x.lowT) : tmLow x.cells := ⟨⟨rfl, h⟩, l⟩
theorem law_calls {H : Type} {enc : TypeId × Value → H} {W : World} {f : FuncId} {fn : Func} {F : ConF} {s : ChangeSpec} {args : Array Value} {ds gs : List (DataW H)} {before : List MemPlace} {dv : List DV} {vs : List Value}
   (hf : Tryz.prog.funcs[f]? = some fn) (hn : (fn.name == "runtime.NumGoroutine") = false) (hb : fn.body.isNone = false) (hres : fn.resultTypes = #[4]) (hread : ∀ t ∈ fn.params.toList, Tryz.prog.readableRec t = true ∧ t < Tryz.prog.types.size)
   (hW : DataW.Whole enc Tryz.prog fn.params.toList s.vars false W args.toList ds gs before) (hv : s.vars = []) (hfn : s.fn H (ds ++ []) = { results := [.lit (.bool true)], args := ds })
   (hT : GoodSt W stA) (hU : Lib.Utf8Tabs 0 1 W) {z : Bool} (hF : ConOkZ z Tryz.prog (stK W) f F) (hx : ∀ k, k (fun _ => (.v (.bool true), [])) = some () → F dv k = some ()) (ha : DRL (baseC (stK W)) noMu dv vs) (hvs : VRL (fun _ => none) vs args.toList) :
   Calls Tryz.prog f args W fun e W' => ∃ v, e = .returned v ∧ s.post enc Tryz.prog fn false true false false W args v W' := by
 have hc := calls_of_con (w := W) (stK_good W) (extK_ok hT hU) follows hf hn hb hF hx ha hvs (.refl _ _)
 rw [show args.toList.toArray = args by simp] at hc
 exact hc.mono fun e W' ⟨he, hb'⟩ => ⟨_, he, post_true laidOut hread hW hv hfn hres Tryz.underlying4 hb'⟩
set_option maxRecDepth 100000 in
theorem contract (H : Type) (enc : TypeId × Value → H) (W : World) (base : Nat) (args : Array Value) (ds gs : List (DataW H)) (before : List MemPlace)
   (hval : ∀ (j : Nat) t v, Tryz.f4.params[j]? = some t → args[j]? = some v → Value.okWide Tryz.prog W .any base t v)
   (hW : DataW.Whole enc Tryz.prog Tryz.f4.params.toList Rows.secretsEquivalenceSpec.vars false W args.toList ds gs before) (hL : laidMetH Tryz.prog Rows.secretsEquivalenceUptoRow.laid W) (hB : Rows.uptoSmall H (ds ++ gs) = true) :
   Calls Tryz.prog 4 args W fun e W' => ∃ v, e = .returned v ∧ Rows.secretsEquivalenceSpec.post enc Tryz.prog Tryz.f4 false true false false W args v W' := by
 have hW' := hW
 obtain ⟨p, q, hA, hV, rfl, hfz, hnd⟩ := hW
 rw [Tryz.params4] at hA hval
 obtain ⟨v0, vs0, d0, ds0, p0, q0, hargs, rfl, rfl, h0, r0⟩ := trodAll_cons hA
 obtain ⟨v1, vs1, d1, ds1, p1, q1, rfl, rfl, rfl, h1, r1⟩ := trodAll_cons r0
 obtain ⟨v2, vs2, d2, ds2, p2, q2, rfl, rfl, rfl, h2, r2⟩ := trodAll_cons r1
 obtain ⟨rfl, rfl, rfl⟩ := trodAll_nil r2
 obtain rfl : args = #[v0, v1, v2] := by cases args; simp_all
 have hB' : Rows.uptoBulkAll (([d0, d1, d2] : List (DataW H)) ++ gs) ≤ 1048576 := of_decide_eq_true hB
 obtain ⟨ds, w0, l0, k0, dr0, vr0⟩ := open_struct Tryz.underlying38 trm_kinds (hval 0 38 v0 rfl rfl) h0 (Nat.le_trans (bulk_mem (by simp)) hB')
 obtain ⟨es, w1, l1, k1, dr1, vr1⟩ := open_struct Tryz.underlying38 trm_kinds (hval 1 38 v1 rfl rfl) h1 (Nat.le_trans (bulk_mem (by simp)) hB')
 obtain ⟨fs, w2, l2, k2, dr2, vr2⟩ := open_struct Tryz.underlying38 trm_kinds (hval 2 38 v2 rfl rfl) h2 (Nat.le_trans (bulk_mem (by simp)) hB')
 refine law_calls (dv := [.agg (tmOf ds).cells, .agg (tmOf es).cells, .agg (tmOf fs).cells]) Tryz.func4 rfl rfl (by kernel_rfl) ?_ hW' rfl rfl (stA_good hL) (utf8_tabs hL) (la4C_ok (hxK W) (vdK W) (awC_ok W))
   (fun k hk => hT ⟨low_of (tm_ok k0) (tm_low k0), low_of (tm_ok k1) (tm_low k1), low_of (tm_ok k2) (tm_low k2)⟩ hk) (.cons (dr0 _ (tm_cv l0 k0)) (.cons (dr1 _ (tm_cv l1 k1)) (.cons (dr2 _ (tm_cv l2 k2)) (.nil _ _)))) (.cons vr0 (.cons vr1 (.cons vr2 (.nil _))))
 rw [Tryz.params4]
 intro t ht
 have ht : t = 38 := by simpa using ht
 subst ht
 exact ⟨by kernel_rfl, by decide +kernel⟩

theorem witness_laid {H : Type} {enc : TypeId × Value → H} {os : Os} {f : FuncId} {fn : Func} {s : OpenSpec} {conds : List PathCond} {laid : List (String × DataW Unit)} (args : Array Value)
   (hsh : ((World.laidAll Tryz.prog os laid).forCall (fun _ _ => 0) ⟨#[], args, []⟩).Shaped Tryz.prog)
   (hok : Input.okWideB Tryz.prog ((World.laidAll Tryz.prog os laid).forCall (fun _ _ => 0) ⟨#[], args, []⟩) f ⟨#[], args, []⟩ = true)
   (hrow : s.preRow enc Tryz.prog fn conds false laid ((World.laidAll Tryz.prog os laid).forCall (fun _ _ => 0) ⟨#[], args, []⟩).memory args) :
   ∃ (w : World) (tape : Tape) (i : Input), w.os = os ∧ (w.forCall tape i).Shaped Tryz.prog ∧ i.vars = [] ∧ Input.okWide Tryz.prog (w.forCall tape i) .any w.heap.size f i ∧
     s.preRow enc Tryz.prog fn conds false laid (w.forCall tape i).memory i.args ∧ ({ modest := false } : Assume).holds Tryz.prog (lone (Frame.enter Tryz.prog f i.args .normal) [] (w.forCall tape i)) :=
 ⟨World.laidAll Tryz.prog os laid, fun _ _ => 0, ⟨#[], args, []⟩, World.laidAll_os _ _ _, hsh, (Input.okWide_of_okWideB (base := 0) hok).1, (Input.okWide_of_okWideB hok).2, hrow, by
   simp only [Assume.holds]
   exact ⟨by simp, by simp, fun _ => Modest.zero, by simp, by simp⟩⟩
def wargs : Array Value := #[.agg #[.int .i64 0, .int .i64 0, .slice none 0 0, .int .i64 0, .int .i64 0, .slice none 0 0, .int .i64 0, .int .i64 0, .bool false, .int .i64 0, .int .i64 0, .bool false, .int .i64 0, .int .i64 0, .int .i64 0, .bool false, .int .u8 0, .int .u8 0, .int .i64 0, .int .i64 0, .int .i64 0, .int .i64 0, .bool false, .bool false, .bool false, .bool false, .bool false, .bool false, .bool false, .bool false, .int .u8 0, .int .u8 0, .int .i64 0, .int .i64 0, .int .i64 0, .slice none 0 0, .slice none 0 0, .int .i64 0, .string ⟨#[]⟩, .string ⟨#[]⟩, .string ⟨#[]⟩, .string ⟨#[]⟩], .agg #[.int .i64 0, .int .i64 0, .slice none 0 0, .int .i64 0, .int .i64 0, .slice none 0 0, .int .i64 0, .int .i64 0, .bool false, .int .i64 0, .int .i64 0, .bool false, .int .i64 0, .int .i64 0, .int .i64 0, .bool false, .int .u8 0, .int .u8 0, .int .i64 0, .int .i64 0, .int .i64 0, .int .i64 0, .bool false, .bool false, .bool false, .bool false, .bool false, .bool false, .bool false, .bool false, .int .u8 0, .int .u8 0, .int .i64 0, .int .i64 0, .int .i64 0, .slice none 0 0, .slice none 0 0, .int .i64 0, .string ⟨#[]⟩, .string ⟨#[]⟩, .string ⟨#[]⟩, .string ⟨#[]⟩], .agg #[.int .i64 0, .int .i64 0, .slice none 0 0, .int .i64 0, .int .i64 0, .slice none 0 0, .int .i64 0, .int .i64 0, .bool false, .int .i64 0, .int .i64 0, .bool false, .int .i64 0, .int .i64 0, .int .i64 0, .bool false, .int .u8 0, .int .u8 0, .int .i64 0, .int .i64 0, .int .i64 0, .int .i64 0, .bool false, .bool false, .bool false, .bool false, .bool false, .bool false, .bool false, .bool false, .int .u8 0, .int .u8 0, .int .i64 0, .int .i64 0, .int .i64 0, .slice none 0 0, .slice none 0 0, .int .i64 0, .string ⟨#[]⟩, .string ⟨#[]⟩, .string ⟨#[]⟩, .string ⟨#[]⟩]]
set_option maxRecDepth 100000 in
theorem laid_met (os : Os) : laidMetH Tryz.prog Rows.secretsEquivalenceUptoRow.laid ((World.laidAll Tryz.prog os Rows.secretsEquivalenceUptoRow.laid).forCall (fun _ _ => 0) ⟨#[], wargs, []⟩).memory := by
 rw [MakeChecks.laidMetH_plain _ _ _ plainL]
 exact laidMet_laidAll _ (by kernel_rfl) (by kernel_rfl)
set_option maxRecDepth 100000 in
theorem shaped (os : Os) : ((World.laidAll Tryz.prog os Rows.secretsEquivalenceUptoRow.laid).forCall (fun _ _ => 0) ⟨#[], wargs, []⟩).Shaped Tryz.prog := World.shaped_of_ZipB (by kernel_rfl) (by kernel_rfl)
set_option maxRecDepth 100000 in
theorem reads (os : Os) {H : Type} (enc : TypeId × Value → H) : ∃ places, DataW.whole enc Tryz.prog ((World.laidAll Tryz.prog os Rows.secretsEquivalenceUptoRow.laid).forCall (fun _ _ => 0) ⟨#[], wargs, []⟩).memory Tryz.f4.params.toList Rows.secretsEquivalenceSpec.vars false wargs.toList 8 =
   some ([.agg [.agg [.lit (.int .i64 0), .lit (.int .i64 0), .nil], .agg [.lit (.int .i64 0), .lit (.int .i64 0), .nil], .agg [.lit (.int .i64 0), .lit (.int .i64 0), .lit (.bool false)], .agg [.agg [.lit (.int .i64 0), .lit (.int .i64 0), .lit (.bool false)], .agg [.lit (.int .i64 0), .lit (.int .i64 0), .lit (.int .i64 0)], .lit (.bool false), .agg [.lit (.int .u8 0), .lit (.int .u8 0)], .lit (.int .i64 0)], .agg [.lit (.int .i64 0), .lit (.int .i64 0), .lit (.int .i64 0)], .agg [.lit (.bool false), .lit (.bool false), .lit (.bool false), .lit (.bool false), .lit (.bool false), .lit (.bool false), .lit (.bool false), .lit (.bool false), .agg [.lit (.int .u8 0), .lit (.int .u8 0)], .lit (.int .i64 0)], .lit (.int .i64 0), .lit (.int .i64 0), .nil, .nil, .agg [.lit (.int .i64 0), .lit (.string []), .lit (.string [])], .lit (.string []), .lit (.string [])], .agg [.agg [.lit (.int .i64 0), .lit (.int .i64 0), .nil], .agg [.lit (.int .i64 0), .lit (.int .i64 0), .nil], .agg [.lit (.int .i64 0), .lit (.int .i64 0), .lit (.bool false)], .agg [.agg [.lit (.int .i64 0), .lit (.int .i64 0), .lit (.bool false)], .agg [.lit (.int .i64 0), .lit (.int .i64 0), .lit (.int .i64 0)], .lit (.bool false), .agg [.lit (.int .u8 0), .lit (.int .u8 0)], .lit (.int .i64 0)], .agg [.lit (.int .i64 0), .lit (.int .i64 0), .lit (.int .i64 0)], .agg [.lit (.bool false), .lit (.bool false), .lit (.bool false), .lit (.bool false), .lit (.bool false), .lit (.bool false), .lit (.bool false), .lit (.bool false), .agg [.lit (.int .u8 0), .lit (.int .u8 0)], .lit (.int .i64 0)], .lit (.int .i64 0), .lit (.int .i64 0), .nil, .nil, .agg [.lit (.int .i64 0), .lit (.string []), .lit (.string [])], .lit (.string []), .lit (.string [])], .agg [.agg [.lit (.int .i64 0), .lit (.int .i64 0), .nil], .agg [.lit (.int .i64 0), .lit (.int .i64 0), .nil], .agg [.lit (.int .i64 0), .lit (.int .i64 0), .lit (.bool false)], .agg [.agg [.lit (.int .i64 0), .lit (.int .i64 0), .lit (.bool false)], .agg [.lit (.int .i64 0), .lit (.int .i64 0), .lit (.int .i64 0)], .lit (.bool false), .agg [.lit (.int .u8 0), .lit (.int .u8 0)], .lit (.int .i64 0)], .agg [.lit (.int .i64 0), .lit (.int .i64 0), .lit (.int .i64 0)], .agg [.lit (.bool false), .lit (.bool false), .lit (.bool false), .lit (.bool false), .lit (.bool false), .lit (.bool false), .lit (.bool false), .lit (.bool false), .agg [.lit (.int .u8 0), .lit (.int .u8 0)], .lit (.int .i64 0)], .lit (.int .i64 0), .lit (.int .i64 0), .nil, .nil, .agg [.lit (.int .i64 0), .lit (.string []), .lit (.string [])], .lit (.string []), .lit (.string [])]], [], places) :=
 ⟨[], by kernel_rfl⟩

set_option maxRecDepth 100000 in
theorem lifted (os : Os) (started : os.Started) (H : Type) (enc : TypeId × Value → H) (F : Stop.Interp) :
   ReturnsInHanded {} Tryz.checked os 4 .any ((Rows.OpenSpec.upto Rows.secretsEquivalenceSpec).preRow enc Tryz.prog Tryz.f4 Rows.secretsEquivalenceUptoRow.domain false Rows.secretsEquivalenceUptoRow.laid) (((Rows.OpenSpec.upto Rows.secretsEquivalenceSpec).at F).post enc Tryz.prog Tryz.f4 false true false false) := by
 obtain ⟨places, hx⟩ := reads os enc
 refine returnsInHanded_of_row (C := Tryz.checked) (s := Rows.OpenSpec.upto Rows.secretsEquivalenceSpec) own started (by kernel_rfl) Tryz.func4
   (witness_laid (enc := enc) wargs (shaped os) (by kernel_rfl) (OpenSpec.preRow_of_cond 8 hx (by kernel_rfl) (fun k hk => by cases hk; kernel_rfl) (by kernel_rfl) (laid_met os))) ?_
 intro W base args ds gs before hval hW _ hcond _ hL _ _
 exact contract H enc W base args ds gs before hval hW hL (hcond _ rfl)
end Go.Proofs.YtfdldnomelnbgaaGreatDoor
