/-
  Contracts of Go's library that the reading and writing of a journal lean on.
  Conditions: each contract's own.

  Decode of a tick's line answers the tick.
  Conditions: what the library's contracts ask of the memory (Tabs, the variable MaxLen holds a number).
-/
import Derived.Test.YtiphckeipbfbmaaGreatDoorJTick
import Derived.Test.YtiphckeipbfbmaaGreatDoorJShelfB
import Derived.Shelf.Strings.Builder1
import Derived.Test.YtiphckeipbfbmaaGreatDoorDeGu
import Derived.Lib.AtoiErrMem
namespace Go.Proofs.YtiphckeipbfbmaaGreatDoor
open Go Go.AE Go.DE Go.RowKit

theorem writeString (B b : Nat) (bs : List Value) (s : ByteArray) (w : World) (h : Lib.IsBuilder 86 5 B b bs w) (hlen : bs.length + s.size ≤ 140737488355328) (hBw : B ≤ w.heap.size) :
    Calls Tryz.prog 54 #[.pointer (some ⟨b, 0, none⟩), .string s] w fun e w' => e = .returned (.tuple #[.int .i64 s.size, .nilIface]) ∧ (Lib.BuilderAt 86 5 B b (.pointer (some ⟨b, 0, none⟩)) (bs ++ Lib.strCells s) w' ∧ Below B w w') :=
  Any.Builder_WriteString { Tryz.lays159 with } Tryz.Builder_Extra_159 B b bs s w h hlen hBw
#print axioms writeString
end Go.Proofs.YtiphckeipbfbmaaGreatDoor

namespace Go.Proofs.YtiphckeipbfbmaaGreatDoor
open Go Go.AE Go.DE Go.RowKit

def splitX (n : Nat) : List Value → RG
  | [.string s, .string sep] => if s.size < 4294967281 ∧ 1 ≤ sep.size ∧ Lib.countB s sep + 1 < unk then
      some (.slice (some ⟨n, 0, none⟩) (Lib.countB s sep + 1) (Lib.countB s sep + 1), .push (.cells ((Lib.splitB sep 0 (Lib.countB s sep) s).map Value.string))) else none
  | _ => none
def atoiV : List Value → Option Value
  | [.string s] => if s.size ≤ 18 then (Lib.atoi s.data.toList).map fun n => .tuple #[.int .i64 n, .nilIface] else none
  | _ => none
def tickV (t : Int) : Value := .agg #[.int .i64 2, .int .i64 t, .slice none 0 0, .string ⟨#[]⟩, .int .i64 0, .bool false, .bool false, .int .i64 0, .bool false, .int .i64 0]
open Classical in
noncomputable def encV : List Value → Option Value := fun args => if h : ∃ t, args = [tickV t] ∧ 0 ≤ t ∧ t ≤ 1099511627776 then some (.tuple #[.string (tickS h.choose), .int .i64 0]) else none

def timeOf : Value → Int
  | .agg ⟨_ :: .int _ a :: _⟩ => a
  | _ => 0
noncomputable def callD : CallA := fun f args σ => match f with
  | 46 => RG.app σ (splitX σ.length args)
  | 47 => RG.app σ (keepX atoiV args)
  | 12 => RG.app σ (keepX encV args)
  | f => runF Tryz.prog stJ 50 10 f args σ
def gdD (t : Int) : Gd := fun f args σ => match f, args with
  | 46, [.string a, .string b] => some (a = tickS t ∧ b = SP, .slice (some ⟨σ.length, 0, none⟩) 2 2, σ ++ [some (.cells [.string (itB t), .string TICK])])
  | 47, [.string a] => some (a = itB t, .tuple #[.int .i64 t, .nilIface], σ)
  | 12, [.agg ⟨[.int .i64 q, .int .i64 a, .slice none 0 0, .string s, .int .i64 a1, .bool a2, .bool a3, .int .i64 a4, .bool a5, .int .i64 a6]⟩] =>
    some (q = 2 ∧ a = t ∧ s.size = 0 ∧ a1 = 0 ∧ a2 = false ∧ a3 = false ∧ a4 = 0 ∧ a5 = false ∧ a6 = 0, .tuple #[.string (tickS t), .int .i64 0], σ)
  | _, _ => none
theorem dec_tree (t : Int) (k : Value → Option Unit) : bodyG Tryz.prog stJ callD (gdD t) 50 Tryz.f18 [.string (tickS t)] [] k =
    bif holds (tickS t = tickS t ∧ { data := #[(32 : UInt8)] } = SP) then
      bif holds (itB t = itB t) then
        bif
            holds
              ((2 : Int) = (2 : Int) ∧
                t = t ∧
                  (0 : Nat) = (0 : Nat) ∧
                    (0 : Int) = (0 : Int) ∧
                      false = false ∧ false = false ∧ (0 : Int) = (0 : Int) ∧ false = false ∧ (0 : Int) = (0 : Int)) then
          bif !ByteArray.toList (tickS t) == ByteArray.toList (tickS t) then
            k
              (Value.tuple
                {
                  toList :=
                    [Value.agg
                        {
                          toList :=
                            [Value.int IntKind.i64 (0 : Int), Value.int IntKind.i64 (0 : Int),
                              Value.slice none (0 : Nat) (0 : Nat), Value.string { data := #[] },
                              Value.int IntKind.i64 (0 : Int), Value.bool false, Value.bool false,
                              Value.int IntKind.i64 (0 : Int), Value.bool false, Value.int IntKind.i64 (0 : Int)] },
                      Value.int IntKind.i64 (3 : Int)] })
          else
            k
              (Value.tuple
                {
                  toList :=
                    [Value.agg
                        {
                          toList :=
                            [Value.int IntKind.i64 (2 : Int), Value.int IntKind.i64 t, Value.slice none (0 : Nat) (0 : Nat),
                              Value.string { data := #[] }, Value.int IntKind.i64 (0 : Int), Value.bool false,
                              Value.bool false, Value.int IntKind.i64 (0 : Int), Value.bool false,
                              Value.int IntKind.i64 (0 : Int)] },
                      Value.int IntKind.i64 (0 : Int)] })
        else none
      else none
    else none := by
  kernel_rfl

structure Tabs2 (W : World) : Prop where
  tabs : Tabs W
  len : ∃ m, W.cell? ⟨0, 0, none⟩ = some (.int .i64 m)
theorem cell_below {W w : World} {b i : Nat} {v : Value} (h : W.cell? ⟨b, i, none⟩ = some v) (hb : Below W.heap.size W w) : w.cell? ⟨b, i, none⟩ = some v := by
  unfold World.cell? at h ⊢
  have hlt : b < W.heap.size := by
    rcases Nat.lt_or_ge b W.heap.size with hl | hl
    · exact hl
    · simp [Array.getElem?_eq_none hl] at h
  rw [hb.block b hlt]
  exact h
theorem fnOk_split {W : World} (h : ∃ m, W.cell? ⟨0, 0, none⟩ = some (.int .i64 m)) : FnOk Tryz.prog W 46 (fun a σ => RG.app σ (splitX σ.length a)) := by
  obtain ⟨m, hm⟩ := h
  intro args σ v σ' hg
  dsimp only at hg
  unfold splitX at hg
  split at hg <;> first | (cases hg; done) | skip
  rename_i s sep
  split at hg <;> first | (cases hg; done) | skip
  rename_i hb
  simp only [RG.app, Option.map_some, Option.some.injEq, Prod.mk.injEq] at hg
  obtain ⟨rfl, rfl⟩ := hg
  refine ⟨by simp [Ed.app], fun ρ w args' hR hfr hargs => ?_⟩
  obtain rfl := flat_args (show [Value.string s, Value.string sep].all flat = true from rfl) hargs
  refine (Tryz.strings_Split s sep m w hb.1 (cell_below hm hR.below) hb.2.1).mono fun e w' ⟨he, hw⟩ => ⟨_, he, ?_⟩
  subst hw
  have hf := hfr σ.length (Nat.le_refl _) (by simp [Ed.app])
  have hn := newB_sound (ty := 9) (l := (Lib.splitB sep 0 (Lib.countB s sep) s).map Value.string) (cs := ((Lib.splitB sep 0 (Lib.countB s sep) s).map Value.string).toArray) hR hf (by simp) (fun i v hi => ⟨v, by simpa using hi, by
    simp only [List.getElem?_map, Option.map_eq_some_iff] at hi
    obtain ⟨x, _, rfl⟩ := hi
    exact .string _⟩)
  exact ⟨_, hn, .sliceX _ _ _ _ hb.2.2 (Nat.le_refl _) (.inr ⟨rfl, .inr ⟨rfl, w.heap.size, 0, _, by simp [Ren.put]; rfl, rfl, rfl⟩⟩)⟩
theorem calls_of_con' {P : Program} {st : AE.Stat} {f : FuncId} {F : ConF} {w0 w : World} {fn : Func} {d : DV} {x : Value} {args : List DV} {vs args' : List Value} (hd0 : ∀ C μ v, DR C μ d v → v = x) (hfl : flat x = true) (hst : GoodSt w0 st) (hx0 : CallOk P w0 st.ext) (hm : P.follows .mixedOrders = true) (hf : P.funcs[f]? = some fn) (hn : (fn.name == "runtime.NumGoroutine") = false) (hb : fn.body.isNone = false)
    (hF : ConOk P st f F) (hx : ∀ k, k (fun _ => (d, [])) = some () → F args k = some ()) (ha : DRL (baseC st) noMu args vs) (hv : VRL (fun _ => none) vs args') (hw : Below w0.heap.size w0 w) :
    Calls P f args'.toArray w fun e w' => e = .returned x ∧ Below w.heap.size w w' := by
  obtain ⟨R, hk, _, v, σ', C', μ', ⟨N, hN⟩, _, hd, _⟩ := hF args (fun R => bif holds (R = fun _ => (d, [])) then some () else none) (hx _ (by rw [holds_eq.2 rfl]; rfl)) 0 _ [] vs baseC_state ha
  obtain rfl : R = fun _ => (d, []) := holds_eq.1 (bif_none hk).1
  obtain rfl := hd0 _ _ _ hd
  have hrun := hN N N (Nat.le_refl _) (Nat.le_refl _)
  have hrun : enterA P (runF P st N N) f vs [] = some (v, σ') := hrun
  unfold enterA at hrun
  rw [hf] at hrun
  simp only [hn, hb, Bool.false_eq_true, if_false] at hrun
  have hR0 : Rel w0 (fun _ => none) (hp []) w := .bare hw _
  refine (((runF_sound hst hx0 hm N).fn f (by rw [hf]; rfl) vs [] v σ' hrun).2 (fun _ => none) w args' hR0 (fun _ _ _ => rfl) hv).mono fun e w' he => ?_
  obtain ⟨v', rfl, ρ', hn, hv⟩ := he
  have ev : v' = v := VR_flat hfl hv
  subst ev
  exact ⟨rfl, hn.rel.below.os.trans hw.os.symm, hn.rel.below.tape.trans hw.tape.symm, hn.rel.below.output.trans hw.output.symm, hn.fr.size, fun k hk => hn.fr.fr k hk fun ⟨_, _, _, _, e1, _⟩ => (nomatch e1)⟩
theorem dr_flats {C : Cf} {μ : Mu} (l : List Value) (h : l.all fl1 = true) : DRL C μ (l.map DV.v) l := ⟨by simp, fun i d x hd hx => by
  rw [List.getElem?_map, hx] at hd
  obtain rfl := Option.some.inj hd
  exact .v x (List.all_eq_true.1 h x (List.mem_of_getElem? hx))⟩
theorem tick_dr {C : Cf} {μ : Mu} (t : Int) : DR C μ (tickD t) (tickV t) := by
  have h := dr_flats (C := C) (μ := μ) [.int .i64 2, .int .i64 t, .slice none 0 0, .string ⟨#[]⟩, .int .i64 0, .bool false, .bool false, .int .i64 0, .bool false, .int .i64 0] rfl
  exact .agg _ _ rfl fun i d x hd hx => h.2 i d x hd (by simpa using hx)
theorem tup_dr {s : ByteArray} {e : Int} {C : Cf} {μ : Mu} {v : Value} (h : DR C μ (.tup [sv s, iv e]) v) : v = .tuple #[.string s, .int .i64 e] := by
  cases h with
  | tup cs vs h1 h2 =>
    have hs : vs.size = 2 := h1.symm
    have a0 := h2 0 _ vs[0] rfl (Array.getElem?_eq_getElem (by omega))
    have a1 := h2 1 _ vs[1] rfl (Array.getElem?_eq_getElem (by omega))
    have e0 := (DR_v a0).1
    have e1 := (DR_v a1).1
    congr 1
    apply Array.ext
    · exact hs
    · intro i hi hi'
      have : i = 0 ∨ i = 1 := by omega
      rcases this with rfl | rfl
      · exact e0
      · exact e1
theorem enc_tick {W w : World} (hB : Tabs W) (hw : Below W.heap.size W w) {t : Int} (h0 : 0 ≤ t) (h1 : t ≤ 1099511627776) :
    Calls Tryz.prog 12 #[tickV t] w fun e w' => e = .returned (.tuple #[.string (tickS t), .int .i64 0]) ∧ Below w.heap.size w w' :=
  calls_of_con' (d := .tup [sv (tickS t), iv 0]) (args := [tickD t]) (vs := [tickV t]) (args' := [tickV t]) (fun _ _ _ h => tup_dr h) rfl (stJ_good W) (ext_ok hB) follows Tryz.func12 (by kernel_rfl) (by kernel_rfl) tickC_ok (fun k hk =>
    hT ⟨rfl, rfl, rfl, rfl, rfl, rfl, rfl, rfl, rfl⟩ (cT (inT_iff.2 ⟨h0, h1⟩) hk)) (.cons (tick_dr t) (.nil _ _)) (.cons (flat_VR _ rfl) (.nil _)) hw
theorem callD_run {f : FuncId} (h1 : f ≠ 46) (h2 : f ≠ 47) (h3 : f ≠ 12) : callD f = runF Tryz.prog stJ 50 10 f := by
  funext args σ
  unfold callD
  split <;> first | contradiction | rfl
theorem callD_ok {W : World} (h : Tabs2 W) : RunOk Tryz.prog W callD := by
  refine ⟨fun f hsome => ?_, fun l => ?_⟩
  case refine_2 =>
    have a1 : 46 < Tryz.prog.funcs.size := (Array.getElem?_eq_some_iff.1 Tryz.func46).1
    have a2 : 47 < Tryz.prog.funcs.size := (Array.getElem?_eq_some_iff.1 Tryz.func47).1
    have a3 : 12 < Tryz.prog.funcs.size := (Array.getElem?_eq_some_iff.1 Tryz.func12).1
    rw [callD_run (Nat.ne_of_gt (Nat.lt_of_lt_of_le a1 (Nat.le_add_right _ _))) (Nat.ne_of_gt (Nat.lt_of_lt_of_le a2 (Nat.le_add_right _ _))) (Nat.ne_of_gt (Nat.lt_of_lt_of_le a3 (Nat.le_add_right _ _)))]
    exact (runF_sound (n := 50) (stJ_good W) (ext_ok h.tabs) follows 10).rnd l
  by_cases h1 : f = 46
  · subst h1
    exact fnOk_split h.len
  by_cases h2 : f = 47
  · subst h2
    refine fnOk_keep (g := atoiV) fun args v hg => ?_
    unfold atoiV at hg
    split at hg <;> first | (cases hg; done) | skip
    rename_i s
    split at hg <;> first | (cases hg; done) | skip
    rename_i hs
    obtain ⟨n, hn, rfl⟩ := Option.map_eq_some_iff.1 hg
    exact ⟨rfl, rfl, fun w _ => (Tryz.strconv_Atoi s n hs hn w).mono fun e w' ⟨he, t, hw⟩ => ⟨he, hw ▸ Lib.bytesWorld_below _ _ _⟩⟩
  by_cases h3 : f = 12
  · subst h3
    refine fnOk_keep (g := encV) fun args v hg => ?_
    unfold encV at hg
    split at hg <;> first | (cases hg; done) | skip
    rename_i hx
    obtain rfl := Option.some.inj hg
    have key : ∀ u, args = [tickV u] → 0 ≤ u → u ≤ 1099511627776 → args.all flat = true ∧ flat (.tuple #[.string (tickS u), .int .i64 0]) = true ∧ ∀ w, Below W.heap.size W w →
        Calls Tryz.prog 12 args.toArray w fun e w' => e = .returned (.tuple #[.string (tickS u), .int .i64 0]) ∧ Below w.heap.size w w' := by
      rintro u rfl e2 e3
      exact ⟨rfl, rfl, fun w hw => enc_tick h.tabs hw e2 e3⟩
    exact key _ hx.choose_spec.1 hx.choose_spec.2.1 hx.choose_spec.2.2
  · intro args σ v σ' hx
    rw [callD_run h1 h2 h3] at hx
    exact (runF_sound (n := 50) (stJ_good W) (ext_ok h.tabs) follows 10).fn f hsome args σ v σ' hx
theorem nDigits_le : ∀ (k u : Nat), u < 10 ^ (k + 1) → Lib.nDigits u ≤ k + 1
  | 0, u, h => by rw [Lib.nDigits_small (by simpa using h)]; exact Nat.le_refl _
  | k + 1, u, h => by
    by_cases h1 : u < 10
    · rw [Lib.nDigits_small h1]; omega
    · rw [Lib.nDigits_big h1]
      have := nDigits_le k (u / 10) (by rw [Nat.pow_succ] at h; omega)
      omega
theorem itoa_le18 {t : Int} (h0 : 0 ≤ t) (h1 : t ≤ 1099511627776) : (Lib.itoa t).length ≤ 18 := by
  have he : Lib.itoa t = Lib.decDigits t.toNat := by unfold Lib.itoa; rw [if_neg (by omega)]
  rw [he, Lib.decDigits_length]
  have := nDigits_le 12 t.toNat (by omega)
  omega
theorem enter_call {P : Program} {call : CallA} {f : FuncId} {fn : Func} {args : List Value} {σ : Heap} (hf : P.funcs[f]? = some fn) (hn : (fn.name == "runtime.NumGoroutine") = false) (hb : fn.body.isNone = false) : enterA P call f args σ = call f args σ := by
  unfold enterA
  rw [hf]
  simp only [hn, hb, Bool.false_eq_true, if_false]
theorem gdD_ok {t : Int} (h0 : 0 ≤ t) (h1 : t ≤ 1099511627776) : GdOk Tryz.prog callD (gdD t) := by
  intro g args σ p v σ' h hp
  have hlen := itoa_len h0 h1
  unfold gdD at h
  split at h <;> first | (cases h; done) | skip
  · rename_i a b
    simp only [Option.some.injEq, Prod.mk.injEq] at h
    obtain ⟨rfl, rfl, rfl⟩ := h
    obtain ⟨rfl, rfl⟩ := hp
    rw [enter_call Tryz.func46 (by kernel_rfl) (by kernel_rfl)]
    show RG.app σ (splitX σ.length _) = _
    unfold splitX
    simp only
    rw [tick_count h0, tick_split h0, if_pos ⟨by rw [tick_size]; omega, by decide, by decide⟩]
    rfl
  · rename_i a
    simp only [Option.some.injEq, Prod.mk.injEq] at h
    obtain ⟨rfl, rfl, rfl⟩ := h
    subst hp
    rw [enter_call Tryz.func47 (by kernel_rfl) (by kernel_rfl)]
    show RG.app σ (keepX atoiV _) = _
    unfold keepX atoiV
    have hs : (itB t).data.toList = Lib.itoa t := rfl
    simp only
    rw [if_pos (by rw [size_list, hs]; exact itoa_le18 h0 h1), hs, atoi_itoa h0]
    rfl
  · rename_i q a s a1 a2 a3 a4 a5 a6
    simp only [Option.some.injEq, Prod.mk.injEq] at h
    obtain ⟨rfl, rfl, rfl⟩ := h
    obtain ⟨rfl, rfl, hs, rfl, rfl, rfl, rfl, rfl, rfl⟩ := hp
    obtain rfl : s = ⟨#[]⟩ := bytes_ext (List.length_eq_zero_iff.1 (by rw [← size_list, hs]))
    rw [enter_call Tryz.func12 (by kernel_rfl) (by kernel_rfl)]
    show RG.app σ (keepX encV [tickV a]) = _
    have he : ∃ u, [tickV a] = [tickV u] ∧ 0 ≤ u ∧ u ≤ 1099511627776 := ⟨a, rfl, h0, h1⟩
    have hc : he.choose = a := (congrArg timeOf (List.cons.inj he.choose_spec.1).1).symm
    unfold keepX encV
    rw [dif_pos he, hc]
    rfl
/-- Decode of a tick's line. -/
theorem decode_calls {W w : World} (h : Tabs2 W) (hw : Below W.heap.size W w) {t : Int} (h0 : 0 ≤ t) (h1 : t ≤ 1099511627776) :
    Calls Tryz.prog 18 #[.string (tickS t)] w fun e w' => e = .returned (.tuple #[tickV t, .int .i64 0]) ∧ Below w.heap.size w w' := by
  have hb : bodyG Tryz.prog stJ callD (gdD t) 50 Tryz.f18 [.string (tickS t)] [] (fun u => cond (holds (u = .tuple #[tickV t, .int .i64 0])) (some ()) none) = some () :=
    (dec_tree t _).trans (hT ⟨rfl, rfl⟩ (hT rfl (hT ⟨rfl, rfl, rfl, rfl, rfl, rfl, rfl, rfl, rfl⟩ (cF (by rw [Bool.not_eq_false', beq_iff_eq]) (hT rfl rfl)))))
  have hk := bodyG_run (gdD_ok h0 h1) hb
  have hF : FnOk Tryz.prog W 18 (flatFn fun args => @ite _ (args = [.string (tickS t)]) (Classical.propDecidable _) (some (.tuple #[tickV t, .int .i64 0])) none) :=
    fnOk_of (bodyA_sound (n := 50) (callD_ok h) (stJ_good W) follows Tryz.func18) fun args v hg => by
      split at hg
      · rename_i ha
        obtain rfl := Option.some.inj hg
        subst ha
        exact ⟨rfl, rfl, hk⟩
      · cases hg
  exact calls_of_flat hF (args := [.string (tickS t)]) (by simp) rfl rfl hw
end Go.Proofs.YtiphckeipbfbmaaGreatDoor
