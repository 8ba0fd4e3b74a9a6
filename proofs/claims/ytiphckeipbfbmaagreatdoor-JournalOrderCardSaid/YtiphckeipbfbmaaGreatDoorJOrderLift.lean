/-
  'narratorlaw58.JournalOrder': the law returns true at every world that the row names.
  Conditions: the row's own, that the listed tables hold what it lists.
-/
import Derived.Test.YtiphckeipbfbmaaGreatDoorJStat
import Derived.Test.YtiphckeipbfbmaaGreatDoorJOrd
import Derived.Shelf.Vars
namespace Go.Proofs.YtiphckeipbfbmaaGreatDoor
open Go Go.AE Go.DE Go.RowKit Go.ChangeShapes Go.Joins

set_option maxRecDepth 100000 in
theorem plainL : (Rows.journalOrderRow.laid.all fun x => x.2.handleName?.isNone) = true := by kernel_rfl
set_option maxRecDepth 100000 in
theorem powL : Rows.journalOrderRow.laid[2]? = some ("internal/strconv.uint64pow10", Rows.laid_internal_strconv_uint64pow10) := by kernel_rfl
set_option maxRecDepth 100000 in
theorem spL : Rows.journalOrderRow.laid[7]? = some ("strings.asciiSpace", Rows.laid_strings_asciiSpace) := by kernel_rfl
theorem cells3 : Tryz.prog.cellsOf 3 = 1 := by kernel_rfl
set_option maxRecDepth 100000 in
theorem contract (H : Type) (enc : TypeId × Value → H) (W : World) (base : Nat) (args : Array Value) (ds gs : List (DataW H)) (before : List MemPlace)
    (hval : ∀ (j : Nat) t v, Tryz.f9.params[j]? = some t → args[j]? = some v → Value.okWide Tryz.prog W .any base t v)
    (hW : DataW.Whole enc Tryz.prog Tryz.f9.params.toList Rows.journalOrderSpec.vars false W args.toList ds gs before) (hL : laidMetH Tryz.prog Rows.journalOrderRow.laid W) (hsh : W.ShapedOpen Tryz.prog) :
    Calls Tryz.prog 9 args W fun e W' => ∃ v, e = .returned v ∧ Rows.journalOrderSpec.post enc Tryz.prog Tryz.f9 false true false false W args v W' := by
  have hW' := hW
  obtain ⟨p, q, hA, hV, rfl, hfz, hnd⟩ := hW
  rw [Tryz.params9] at hA hval
  obtain ⟨v0, vs0, d0, ds0, p0, q0, hargs, rfl, rfl, h0, r0⟩ := trodAll_cons hA
  obtain ⟨rfl, rfl, rfl⟩ := trodAll_nil r0
  obtain rfl : args = #[v0] := by cases args; simp_all
  have hT : Tabs2 W := ⟨tabs_of (l := Rows.journalOrderRow.laid) plainL (List.mem_of_getElem? powL) (List.mem_of_getElem? spL) hL,
    cell_of_shapedOpen_int (P := Tryz.prog) (g := 0) (t := 3) (zero := #[.int .i64 0]) hsh (of_decide_eq_true (by kernel_rfl)) (by kernel_rfl) rfl (by kernel_rfl) (by kernel_rfl) Tryz.underlying3⟩
  have hgo : Calls Tryz.prog 9 #[v0] W fun e w' => e = .returned (.bool true) ∧ Below W.heap.size W w' := by
    obtain ⟨fuel, hf⟩ := h0
    obtain ⟨a0, len0, cap0, rfl⟩ := Go.WideShapes.okWide_slice Tryz.underlying49 (hval 0 49 v0 rfl rfl)
    rcases open_ints Tryz.underlying49 Tryz.underlying3 cells3 hf with ⟨hcs, hx⟩ | ⟨a, len, cap, zs, hcs, _, hl, hm, hz, hx, hcell, hwz⟩
    · simp [Value.cells] at hcs
      obtain ⟨rfl, rfl, rfl⟩ := hcs
      exact order_zero none 0 W hT (.refl _ _)
    · simp [Value.cells] at hcs
      obtain ⟨e1, e2, e3⟩ := hcs
      subst e1
      subst e2
      subst e3
      have hz : zs.length = cap0 := by simpa using hz
      rcases Nat.lt_or_ge 10 len0 with h10 | h10
      · exact order_long (some a) cap0 len0 W h10 hT (.refl _ _)
      rcases Nat.eq_zero_or_pos len0 with h00 | h00
      · subst h00
        exact order_zero (some a) cap0 W hT (.refl _ _)
      · have hsp : a.spot = none := by
          have := World.cell?_spot (hcell 0 (by omega))
          simpa [Addr.add] using this
        have hadd : ∀ i, a.add i = ⟨a.block, a.off + i, none⟩ := fun i => by
          cases a
          simp only at hsp
          subst hsp
          unfold Addr.add
          split
          · rename_i h
            subst h
            rfl
          · rfl
        have ha : a = ⟨a.block, a.off, none⟩ := by
          cases a
          simp only at hsp
          subst hsp
          rfl
        have hlen : (zs.take len0).length = len0 := by simp; omega
        have h := order_calls a.block a.off cap0 (zs.take len0) W (by omega) (fun k hk => by
          have := hcell k (by omega)
          rw [hadd] at this
          rw [this, List.getD_eq_getElem?_getD, List.getD_eq_getElem?_getD, List.getElem?_take_of_lt (by omega)]) hT (.refl _ _)
        rw [hlen] at h
        rw [ha]
        exact h
  refine hgo.mono fun e W' ⟨he, hb'⟩ => ⟨_, he, post_true laidOut ?_ hW' rfl rfl rfl Tryz.underlying4 hb'⟩
  rw [Tryz.params9]
  intro t ht
  obtain rfl : t = 49 := by simpa using ht
  exact ⟨by kernel_rfl, by decide +kernel⟩

def wargs : Array Value := #[.slice none 0 0]
theorem laid_met (os : Os) : laidMetH Tryz.prog Rows.journalOrderRow.laid ((World.laidAll Tryz.prog os Rows.journalOrderRow.laid).forCall (fun _ _ => 0) ⟨#[], wargs, []⟩).memory := by
  rw [MakeChecks.laidMetH_plain _ _ _ (by kernel_rfl)]
  exact laidMet_laidAll _ (by kernel_rfl) (by kernel_rfl)
theorem shaped (os : Os) : ((World.laidAll Tryz.prog os Rows.journalOrderRow.laid).forCall (fun _ _ => 0) ⟨#[], wargs, []⟩).Shaped Tryz.prog := World.shaped_of_ZipB (by kernel_rfl) (by kernel_rfl)
theorem reads (os : Os) {H : Type} (enc : TypeId × Value → H) : ∃ places, DataW.whole enc Tryz.prog ((World.laidAll Tryz.prog os Rows.journalOrderRow.laid).forCall (fun _ _ => 0) ⟨#[], wargs, []⟩).memory Tryz.f9.params.toList Rows.journalOrderSpec.vars false wargs.toList 8 = some ([.nil], [], places) :=
  ⟨[], by kernel_rfl⟩

set_option maxRecDepth 100000 in
theorem lifted (os : Os) (started : os.Started) (H : Type) (enc : TypeId × Value → H) (F : Stop.Interp) :
    ReturnsInHanded {} Tryz.checked os 9 .any ((OpenSpec.ofChange Rows.journalOrderSpec).preRow enc Tryz.prog Tryz.f9 Rows.journalOrderRow.domain false Rows.journalOrderRow.laid) (((OpenSpec.ofChange Rows.journalOrderSpec).at F).post enc Tryz.prog Tryz.f9 false true false false) := by
  obtain ⟨places, hx⟩ := reads os enc
  refine returnsInHanded_of_row (C := Tryz.checked) (s := OpenSpec.ofChange Rows.journalOrderSpec) own started (by kernel_rfl) Tryz.func9
    (witness_laid (enc := enc) wargs (shaped os) (by kernel_rfl) (OpenSpec.preRow_of_cond 8 hx (by kernel_rfl) (fun k hk => by cases hk) (by kernel_rfl) (laid_met os))) ?_
  intro W base args ds gs before hval hW _ _ _ hL hsh _
  exact contract H enc W base args ds gs before hval hW hL hsh

end Go.Proofs.YtiphckeipbfbmaaGreatDoor
