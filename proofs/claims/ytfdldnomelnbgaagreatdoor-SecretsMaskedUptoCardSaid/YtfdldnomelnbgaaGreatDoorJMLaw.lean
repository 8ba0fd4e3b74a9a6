/-
 The law's own body: whatever the terminal, it answers true.
 Conditions: none beyond those of the contracts.

 'narratorlaw57.SecretsMasked': for every terminal of bulk at most 1048576 the law answers true and leaves the input as it was.
 Conditions: the row's own (what is read is of bulk at most 1048576), and that the listed tables hold what it lists.
-/
import Derived.Test.YtfdldnomelnbgaaGreatDoorJLaw
import Derived.Test.YtfdldnomelnbgaaGreatDoorJSme
import Derived.Lib.LaidU8T
namespace Go.Proofs.YtfdldnomelnbgaaGreatDoor
open Go Go.AE Go.DE Go.RowKit

/-- Mask, at a terminal and at what it makes of it. -/
noncomputable def maX (Q : List DV → Prop) (x m : Tm) : ConF := fun args k => match args with
 | [.agg l] => bif holds (Q l ∧ (l = x.cells ∨ l = m.cells)) then k (fun _ => (.agg m.cells, [])) else none
 | _ => none
noncomputable abbrev lmL (x m : Tm) (Q : List DV → Prop) (F : List DV → Bool) (Q0 : List DV → Prop) (Q3 : List DV → Prop) (Q1 : List DV → Prop) (A : List DV → List DV → Bool) (Q2 : List DV → Prop) (I : List DV → Nat → Int) (R : List DV → Nat → Gl) (N : List DV → Nat) (E : List DV → Bool)
  (Q4 : (Nat → Nat → DV) → Nat → Prop) (G : (Nat → Gl) → Nat → (Nat → Gl) → Nat → Bool) : List (FuncId × ConF) := [(5, gfC Q F), (6, awC), (7, maX Q0 x m), (8, tcC Q3), (9, alC Q1 A), (10, smC Q), (12, ofC Q2 I R N E), (11, veC Q4 G)]
theorem ml_tree (x m : Tm) (Q : List DV → Prop) (F : List DV → Bool) (Q0 : List DV → Prop) (Q3 : List DV → Prop) (Q1 : List DV → Prop) (A : List DV → List DV → Bool) (Q2 : List DV → Prop) (I : List DV → Nat → Int) (R : List DV → Nat → Gl) (N : List DV → Nat) (E : List DV → Bool) (Q4 : (Nat → Nat → DV) → Nat → Prop) (G : (Nat → Gl) → Nat → (Nat → Gl) → Nat → Bool) (k : DV → Option Unit) : bodyD Tryz.prog (envZ (lmL x m Q F Q0 Q3 Q1 A Q2 I R N E Q4 G) noLp 0) Tryz.f3 [.agg x.cells] [] (fun d _ => k d) =
  bif holds (Q x.cells) then bif !F x.cells then k (bv true) else bif holds (Q0 x.cells ∧ (x.cells = x.cells ∨ x.cells = m.cells)) then bif holds (Q3 m.cells) then bif holds (Q1 x.cells ∧ Q1 m.cells)
  then bif A x.cells m.cells then bif holds (Q0 m.cells ∧ (m.cells = x.cells ∨ m.cells = m.cells)) then bif holds (Q m.cells ∧ m.cells = m.cells) then bif holds (Q2 m.cells) then bif holds (Q2 x.cells)
  then bif holds (Q4 (glsD (fun x => false) (R m.cells)) (N m.cells) ∧ Q4 (glsD (fun x => false) (R x.cells)) (N x.cells)) then bif bif I m.cells 0 == I x.cells 0 then bif I m.cells 1 == I x.cells 1
  then bif I m.cells 6 == I x.cells 6 then bif I m.cells 7 == I x.cells 7 then bif E m.cells == E x.cells then G (fun i => glD (.sl ((fun x => false) i) (Gl.cell (R m.cells i)) 3 (Gl.n (R m.cells i)))) (N m.cells) (fun i => glD (.sl ((fun x => false) i) (Gl.cell (R x.cells i)) 3 (Gl.n (R x.cells i)))) (N x.cells)
  else false else false else false else false else false then k (bv true) else k (bv false) else none else none else none else none else none else k (bv false) else none else none else none else none := by
 kernel_rfl
theorem pos_ok {x : Tm} (h : x.pos) (s : (x.S 40).size ≤ 9000000 ∧ (x.S 41).size ≤ 9000000) : x.ok := ⟨Tm.pos_g h, Tm.pos_o h, Tm.pos_b h, h.2.2.2.1, s⟩
theorem ml_true (x : Tm) (ox : x.ok) (lx : x.lowT) : bodyD Tryz.prog (envZ (lmL x x.msk tmOk fineL tmHere tckQ tmHere alikeL tmLow viI viG viC viB glsHere glsEq) noLp 0) Tryz.f3 [.agg x.cells] [] (fun d _ => isD (bv true) d) = some () := by
 refine (ml_tree x x.msk tmOk fineL tmHere tckQ tmHere alikeL tmLow viI viG viC viB glsHere glsEq _).trans ?_
 refine hT ⟨rfl, ox⟩ (cS (fun _ => isD_of rfl) fun f => ?_)
 have nf : ∀ {v : Tm}, (!fineL v.cells) = false → fineF v = true := fun {v} h => by
  have h : (!fineF v) = false := h
  simpa using h
 have p := fine_prp (nf f)
 have hp := p.pos ox
 have hx := here_tm hp
 have hm := here_tm (msk_pos hp)
 have om : x.msk.ok := pos_ok (msk_pos hp) ox.2.2.2.2
 have q := p.pp.msk
 refine hT ⟨hx, .inl rfl⟩ (hT ⟨rfl, om, ⟨q.g, q.o, q.w, q.h, q.c, q.d, q.a, q.a2, q.s, q.s2, q.t0, q.t1, q.t2, q.tn, q.bn, q.v, q.b⟩⟩ (hT ⟨hx, hm⟩ (cT (alike_msk x) (hT ⟨hm, .inr rfl⟩ (hT ⟨⟨rfl, om⟩, rfl⟩ (hT ⟨⟨rfl, om⟩, fun _ _ => rfl⟩ (hT ⟨⟨rfl, ox⟩, lx⟩ (hT ⟨gls_here (viR_le om), gls_here (viR_le ox)⟩ ?_))))))))
 have hv := alike_viewP (x := x.msk) (y := x) (by rw [Tm.msk_msk]) p.pp.msk p.pp
 show (bif viE x.msk x then _ else _) = some ()
 rw [hv]
 exact isD_of rfl
noncomputable def la3C : ConF := fun args k => match args with
 | [.agg l] => bif holds (tmLow l) then k (fun _ => (bv true, [])) else none
 | _ => none
theorem la3C_ok {st : AE.Stat} (hx : ∀ f, exA f = false → ∀ a σ, st.ext f a σ = none) (hv : VdOk st) (ha : ConOk Tryz.prog st 6 awC) : ConOkZ true Tryz.prog st 3 la3C := fun args k hk => by
 unfold la3C at hk
 split at hk <;> first | (cases hk; done) | skip
 rename_i l
 obtain ⟨hb, hk⟩ := bif_none hk
 obtain ⟨⟨l1, l2⟩, l3⟩ := holds_eq.1 hb
 refine con_flatZ (F := fun a k' => bif holds (a = [.agg l]) then k' (fun _ => (bv true, [])) else none) (mg := []) (l := lmL (tmOf l) (tmOf l).msk tmOk fineL tmHere tckQ tmHere alikeL tmLow viI viG viC viB glsHere glsEq) (lp := noLp) (n := 0) (glOk st) (fun x h => ?_) Tryz.func3 (by kernel_rfl) (by kernel_rfl) (hx 3 rfl) (fun _ _ _ h => nomatch h) (fun args k hk => ?_) _ k (hT rfl hk)
 ·simp only [lmL, List.mem_cons, List.not_mem_nil, or_false] at h
  rcases h with rfl | rfl | rfl | rfl | rfl | rfl | rfl | rfl
  ·exact (gfC_ok hx).z
  ·exact ha.z
  ·refine con_le (maC_ok hx) fun args k hk => ?_
   have hk : maX tmHere (tmOf l) (tmOf l).msk args k = some () := hk
   unfold maX at hk
   split at hk <;> first | (cases hk; done) | skip
   obtain ⟨e, hk2⟩ := bif_none hk
   obtain ⟨e1, e2⟩ := holds_eq.1 e
   clear hk e
   rcases e2 with rfl | rfl
   ·exact hT e1 hk2
   ·refine hT e1 ?_
    have e3 : (mskL (tmOf l).msk.cells).cells = (tmOf l).msk.cells := by rw [mskL_cells, Tm.msk_msk]
    rw [e3]
    exact hk2
  ·exact (tcC_ok hx hv).z
  ·exact alC_ok hx
  ·exact (smC_ok hx).z
  ·exact ofC_ok hx hv
  ·exact (veC_ok hx).z
 ·obtain ⟨e, hk2⟩ := bif_none hk
  obtain rfl := holds_eq.1 e
  exact ⟨[.agg (tmOf l).cells], _, .cons (Cv.of (by rw [← l1])) .nil, v_clo _, hk2, ml_true (tmOf l) l2 l3⟩
end Go.Proofs.YtfdldnomelnbgaaGreatDoor

namespace Go.Proofs.YtfdldnomelnbgaaGreatDoor
open Go Go.AE Go.DE Go.RowKit Go.ChangeShapes Go.Joins

theorem own : ownKnob Tryz.prog.godebug = none := by kernel_rfl
theorem laidOut : laidOutB Tryz.prog = true := by kernel_rfl
theorem laidVar_of_mem {P : Program} {W : World} {n : String} {d : DataW Unit} : ∀ {l : List (String × DataW Unit)} {ps : List MemPlace}, DataW.LaidVars P W l ps → (n, d) ∈ l →
  ∃ g t cs fuel p, P.globalNamed n = some g ∧ (P.globals[g]?).map (·.type) = some t ∧ W.var? P n = some cs ∧ DataW.trod (fun _ => ()) P W 0 (fun _ => true) false fuel t cs.toList = some (d, p)
 | [], _, _, hm => by cases hm
 | (n', d') :: l, ps, h, hm => by
  obtain ⟨g, t, cs, fuel, p, q, hg, ht, hv, hd, hr, _⟩ := h
  rcases List.mem_cons.1 hm with e | hm
  ·cases e
   exact ⟨g, t, cs, fuel, p, hg, ht, hv, hd⟩
  ·exact laidVar_of_mem hr hm
theorem tabIs_of_mem {P : Program} {W : World} {name : String} {k : IntKind} {zs : List Int} {l : List (String × DataW Unit)} {g : Nat} {t e : TypeId} {n : Nat} (hm : (name, Lib.tabData k zs) ∈ l)
  (hg : P.globalNamed name = some g) (hty : (P.globals[g]?).map (·.type) = some t) (ht : P.underlying t = some (.array n e)) (he : P.underlying e = some (.int k)) (hce : P.cellsOf e = 1) (hct : P.cellsOf t = n)
  (h : laidMet P l W) : Lib.TabIs P W name k zs := by
 obtain ⟨ps, hv, _⟩ := h
 obtain ⟨g', t', cs, fuel, p, hg', ht', hvar, hd⟩ := laidVar_of_mem hv hm
 obtain rfl := Option.some.inj (hg.symm.trans hg')
 obtain rfl := Option.some.inj (hty.symm.trans ht')
 have hc := Lib.cells_of_tab ht he hce hct hd
 unfold Lib.TabIs
 rw [hvar]
 refine congrArg some ?_
 cases cs
 simp only at hc
 rw [hc]
theorem codes_data : Rows.laid_narrator_attr_codes = (Lib.tabData .i64 [1, 2, 3, 4, 5, 7, 8, 9] : DataW Unit) := by kernel_rfl
theorem gCodes : Tryz.prog.globalNamed "narrator/attr.codes" = some 2 := by kernel_rfl
set_option maxRecDepth 100000 in
theorem plainL : (Rows.secretsMaskedUptoRow.laid.all fun x => x.2.handleName?.isNone) = true := by kernel_rfl
set_option maxRecDepth 100000 in
theorem codesL : Rows.secretsMaskedUptoRow.laid[3]? = some ("narrator/attr.codes", Rows.laid_narrator_attr_codes) := by kernel_rfl
theorem table {W : World} (h : laidMetH Tryz.prog Rows.secretsMaskedUptoRow.laid W) : Lib.TabIs Tryz.prog W "narrator/attr.codes" .i64 [1, 2, 3, 4, 5, 7, 8, 9] := by
 rw [MakeChecks.laidMetH_plain _ _ _ plainL] at h
 have hm := List.mem_of_getElem? codesL
 rw [codes_data] at hm
 obtain ⟨t, ht⟩ : ∃ t, (Tryz.prog.globals[2]?).map (·.type) = some t ∧ (∃ e, Tryz.prog.underlying t = some (.array 8 e) ∧ Tryz.prog.underlying e = some (.int .i64) ∧ Tryz.prog.cellsOf e = 1) ∧ Tryz.prog.cellsOf t = 8 := by
  refine ⟨((Tryz.prog.globals[2]?).map (·.type)).getD 0, ?_, ⟨(match Tryz.prog.underlying (((Tryz.prog.globals[2]?).map (·.type)).getD 0) with | some (.array _ e) => e | _ => 0), ?_, ?_, ?_⟩, ?_⟩ <;> kernel_rfl
 obtain ⟨e, he⟩ := ht.2.1
 exact tabIs_of_mem hm (g := 2) gCodes ht.1 he.1 he.2.1 he.2.2 ht.2.2 h
set_option maxRecDepth 100000 in
theorem accL : Rows.secretsMaskedUptoRow.laid[4]? = some ("unicode/utf8.acceptRanges", Rows.laid_unicode_utf8_acceptRanges) := by kernel_rfl
set_option maxRecDepth 100000 in
theorem firL : Rows.secretsMaskedUptoRow.laid[5]? = some ("unicode/utf8.first", Rows.laid_unicode_utf8_first) := by kernel_rfl
theorem acc_data : (Rows.laid_unicode_utf8_acceptRanges : DataW Unit) = Lib.acceptData := by kernel_rfl
theorem fir_data : Rows.laid_unicode_utf8_first = Lib.firstData := by kernel_rfl
theorem u8X : U8Extra Tryz.prog Tryz.lays196_ren where
 n3 := by kernel_rfl
 n4 := by kernel_rfl
 y3 := by kernel_rfl
 y4 := by kernel_rfl
 c5 := by kernel_rfl
 c119 := by kernel_rfl
 c138 := by kernel_rfl
theorem utf8_tabs {W : World} (h : laidMetH Tryz.prog Rows.secretsMaskedUptoRow.laid W) : Lib.Utf8Tabs 0 1 W := by
 rw [MakeChecks.laidMetH_plain _ _ _ plainL] at h
 have m4 := List.mem_of_getElem? accL
 have m5 := List.mem_of_getElem? firL
 rw [acc_data] at m4
 rw [fir_data] at m5
 exact utf8Tabs_of_readsT (.of196 Tryz.lays196) u8X (Lib.laidMet.reads h m5) (Lib.laidMet.reads h m4)
theorem stA_good {W : World} (h : laidMetH Tryz.prog Rows.secretsMaskedUptoRow.laid W) : GoodSt W stA := by
 intro b i v hb
 have ht := table h
 unfold Lib.TabIs World.var? at ht
 rw [gCodes] at ht
 simp only [Option.bind_some] at ht
 split at ht
 ·rename_i cs ty fr hw
  obtain rfl := Option.some.inj ht
  have hc : ∀ (j : Nat) (u : Value), (#[Value.int .i64 1, .int .i64 2, .int .i64 3, .int .i64 4, .int .i64 5, .int .i64 7, .int .i64 8, .int .i64 9] : Array Value)[j]? = some u → W.cell? ⟨2, j, none⟩ = some u := fun j u hu => by
   unfold World.cell?
   simp only [hw, Option.isSome_none, Bool.false_eq_true, if_false]
   exact hu
  have key : ∃ n : Int, v = .int .i64 n ∧ W.cell? ⟨b, i, none⟩ = some (.int .i64 n) := by
   have hb : stC b i = some v := hb
   unfold stC at hb
   split at hb <;> first | (cases hb; done) | skip
   unfold codesV at hb
   split at hb <;> first | (cases hb; done) | skip
   all_goals
    obtain rfl := Option.some.inj hb
    exact ⟨_, rfl, hc _ _ rfl⟩
  obtain ⟨n, rfl, h2⟩ := key
  exact ⟨_, h2, fun ρ => .int _ _⟩
 ·cases ht
theorem low_of {x : Tm} (h : x.ok) (l : x.lowT) : tmLow x.cells := ⟨⟨rfl, h⟩, l⟩
theorem law_calls {H : Type} {enc : TypeId × Value → H} {W : World} {f : FuncId} {fn : Func} {F : ConF} {s : ChangeSpec} {args : Array Value} {ds gs : List (DataW H)} {before : List MemPlace} {dv : List DV} {vs : List Value}
  (hf : Tryz.prog.funcs[f]? = some fn) (hn : (fn.name == "runtime.NumGoroutine") = false) (hb : fn.body.isNone = false) (hres : fn.resultTypes = #[4]) (hread : ∀ t ∈ fn.params.toList, Tryz.prog.readableRec t = true ∧ t < Tryz.prog.types.size)
  (hW : DataW.Whole enc Tryz.prog fn.params.toList s.vars false W args.toList ds gs before) (hv : s.vars = []) (hfn : s.fn H (ds ++ []) = { results := [.lit (.bool true)], args := ds })
  (hT : GoodSt W stA) (hU : Lib.Utf8Tabs 0 1 W) {z : Bool} (hF : ConOkZ z Tryz.prog (stK W) f F) (hx : ∀ k, k (fun _ => (.v (.bool true), [])) = some () → F dv k = some ()) (ha : DRL (baseC (stK W)) noMu dv vs) (hvs : VRL (fun _ => none) vs args.toList) :
  Calls Tryz.prog f args W fun e W' => ∃ v, e = .returned v ∧ s.post enc Tryz.prog fn false true false false W args v W' := by
 have hc := calls_of_con (w := W) (stK_good W) (extK_ok hT hU) follows hf hn hb hF hx ha hvs (.refl _ _)
 rw [show args.toList.toArray = args by simp] at hc
 exact hc.mono fun e W' ⟨he, hb'⟩ => ⟨_, he, post_true laidOut hread hW hv hfn hres Tryz.underlying4 hb'⟩
set_option maxRecDepth 100000 in
theorem contract (H : Type) (enc : TypeId × Value → H) (W : World) (base : Nat) (args : Array Value) (ds gs : List (DataW H)) (before : List MemPlace)
  (hval : ∀ (j : Nat) t v, Tryz.f3.params[j]? = some t → args[j]? = some v → Value.okWide Tryz.prog W .any base t v)
  (hW : DataW.Whole enc Tryz.prog Tryz.f3.params.toList Rows.secretsMaskedSpec.vars false W args.toList ds gs before) (hL : laidMetH Tryz.prog Rows.secretsMaskedUptoRow.laid W) (hB : Rows.uptoSmall H (ds ++ gs) = true) :
  Calls Tryz.prog 3 args W fun e W' => ∃ v, e = .returned v ∧ Rows.secretsMaskedSpec.post enc Tryz.prog Tryz.f3 false true false false W args v W' := by
 have hW' := hW
 obtain ⟨p, q, hA, hV, rfl, hfz, hnd⟩ := hW
 rw [Tryz.params3] at hA hval
 obtain ⟨v0, vs0, d0, ds0, p0, q0, hargs, rfl, rfl, h0, r0⟩ := trodAll_cons hA
 obtain ⟨rfl, rfl, rfl⟩ := trodAll_nil r0
 obtain rfl : args = #[v0] := by cases args; simp_all
 have hB' : Rows.uptoBulkAll (([d0] : List (DataW H)) ++ gs) ≤ 1048576 := of_decide_eq_true hB
 obtain ⟨ds, w0, l0, k0, dr0, vr0⟩ := open_struct Tryz.underlying38 trm_kinds (hval 0 38 v0 rfl rfl) h0 (Nat.le_trans (bulk_mem (by simp)) hB')
 refine law_calls (dv := [.agg (tmOf ds).cells]) Tryz.func3 rfl rfl (by kernel_rfl) ?_ hW' rfl rfl (stA_good hL) (utf8_tabs hL) (la3C_ok (hxK W) (vdK W) (awC_ok W))
  (fun k hk => hT (low_of (tm_ok k0) (tm_low k0)) hk) (.cons (dr0 _ (tm_cv l0 k0)) (.nil _ _)) (.cons vr0 (.nil _))
 rw [Tryz.params3]
 intro t ht
 have ht : t = 38 := by simpa using ht
 subst ht
 exact ⟨by kernel_rfl, by decide +kernel⟩

theorem witness_laid {H : Type} {enc : TypeId × Value → H} {os : Os} {f : FuncId} {fn : Func} {s : OpenSpec} {conds : List PathCond} {laid : List (String × DataW Unit)} (args : Array Value)
  (hsh : ((World.laidAll Tryz.prog os laid).forCall (fun _ _ => 0) ⟨#[], args, []⟩).Shaped Tryz.prog)
  (hok : Input.okWideB Tryz.prog ((World.laidAll Tryz.prog os laid).forCall (fun _ _ => 0) ⟨#[], args, []⟩) f ⟨#[], args, []⟩ = true)
  (hrow : s.preRow enc Tryz.prog fn conds false laid ((World.laidAll Tryz.prog os laid).forCall (fun _ _ => 0) ⟨#[], args, []⟩).memory args) :
  ∃ (w : World) (tape : Tape) (i : Input), w.os = os ∧ (w.forCall tape i).Shaped Tryz.prog ∧ i.vars = [] ∧ Input.okWide Tryz.prog (w.forCall tape i) .any w.heap.size f i ∧
   s.preRow enc Tryz.prog fn conds false laid (w.forCall tape i).memory i.args ∧ ({ modest := false } : Assume).holds Tryz.prog (lone (Frame.enter Tryz.prog f i.args .normal) [] (w.forCall tape i)) :=
 ⟨World.laidAll Tryz.prog os laid, fun _ _ => 0, ⟨#[], args, []⟩, World.laidAll_os _ _ _, hsh, (Input.okWide_of_okWideB (base := 0) hok).1, (Input.okWide_of_okWideB hok).2, hrow, by
  simp only [Assume.holds]
  exact ⟨by simp, by simp, fun _ => Modest.zero, by simp, by simp⟩⟩
def wargs : Array Value := #[.agg #[.int .i64 0, .int .i64 0, .slice none 0 0, .int .i64 0, .int .i64 0, .slice none 0 0, .int .i64 0, .int .i64 0, .bool false, .int .i64 0, .int .i64 0, .bool false, .int .i64 0, .int .i64 0, .int .i64 0, .bool false, .int .u8 0, .int .u8 0, .int .i64 0, .int .i64 0, .int .i64 0, .int .i64 0, .bool false, .bool false, .bool false, .bool false, .bool false, .bool false, .bool false, .bool false, .int .u8 0, .int .u8 0, .int .i64 0, .int .i64 0, .int .i64 0, .slice none 0 0, .slice none 0 0, .int .i64 0, .string ⟨#[]⟩, .string ⟨#[]⟩, .string ⟨#[]⟩, .string ⟨#[]⟩]]
set_option maxRecDepth 100000 in
theorem laid_met (os : Os) : laidMetH Tryz.prog Rows.secretsMaskedUptoRow.laid ((World.laidAll Tryz.prog os Rows.secretsMaskedUptoRow.laid).forCall (fun _ _ => 0) ⟨#[], wargs, []⟩).memory := by
 rw [MakeChecks.laidMetH_plain _ _ _ plainL]
 exact laidMet_laidAll _ (by kernel_rfl) (by kernel_rfl)
set_option maxRecDepth 100000 in
theorem shaped (os : Os) : ((World.laidAll Tryz.prog os Rows.secretsMaskedUptoRow.laid).forCall (fun _ _ => 0) ⟨#[], wargs, []⟩).Shaped Tryz.prog := World.shaped_of_ZipB (by kernel_rfl) (by kernel_rfl)
set_option maxRecDepth 100000 in
theorem reads (os : Os) {H : Type} (enc : TypeId × Value → H) : ∃ places, DataW.whole enc Tryz.prog ((World.laidAll Tryz.prog os Rows.secretsMaskedUptoRow.laid).forCall (fun _ _ => 0) ⟨#[], wargs, []⟩).memory Tryz.f3.params.toList Rows.secretsMaskedSpec.vars false wargs.toList 8 =
  some ([.agg [.agg [.lit (.int .i64 0), .lit (.int .i64 0), .nil], .agg [.lit (.int .i64 0), .lit (.int .i64 0), .nil], .agg [.lit (.int .i64 0), .lit (.int .i64 0), .lit (.bool false)], .agg [.agg [.lit (.int .i64 0), .lit (.int .i64 0), .lit (.bool false)], .agg [.lit (.int .i64 0), .lit (.int .i64 0), .lit (.int .i64 0)], .lit (.bool false), .agg [.lit (.int .u8 0), .lit (.int .u8 0)], .lit (.int .i64 0)], .agg [.lit (.int .i64 0), .lit (.int .i64 0), .lit (.int .i64 0)], .agg [.lit (.bool false), .lit (.bool false), .lit (.bool false), .lit (.bool false), .lit (.bool false), .lit (.bool false), .lit (.bool false), .lit (.bool false), .agg [.lit (.int .u8 0), .lit (.int .u8 0)], .lit (.int .i64 0)], .lit (.int .i64 0), .lit (.int .i64 0), .nil, .nil, .agg [.lit (.int .i64 0), .lit (.string []), .lit (.string [])], .lit (.string []), .lit (.string [])]], [], places) :=
 ⟨[], by kernel_rfl⟩

set_option maxRecDepth 100000 in
theorem lifted (os : Os) (started : os.Started) (H : Type) (enc : TypeId × Value → H) (F : Stop.Interp) :
  ReturnsInHanded {} Tryz.checked os 3 .any ((Rows.OpenSpec.upto Rows.secretsMaskedSpec).preRow enc Tryz.prog Tryz.f3 Rows.secretsMaskedUptoRow.domain false Rows.secretsMaskedUptoRow.laid) (((Rows.OpenSpec.upto Rows.secretsMaskedSpec).at F).post enc Tryz.prog Tryz.f3 false true false false) := by
 obtain ⟨places, hx⟩ := reads os enc
 refine returnsInHanded_of_row (C := Tryz.checked) (s := Rows.OpenSpec.upto Rows.secretsMaskedSpec) own started (by kernel_rfl) Tryz.func3
  (witness_laid (enc := enc) wargs (shaped os) (by kernel_rfl) (OpenSpec.preRow_of_cond 8 hx (by kernel_rfl) (fun k hk => by cases hk; kernel_rfl) (by kernel_rfl) (laid_met os))) ?_
 intro W base args ds gs before hval hW _ hcond _ hL _ _
 exact contract H enc W base args ds gs before hval hW hL (hcond _ rfl)
end Go.Proofs.YtfdldnomelnbgaaGreatDoor
