/-
  The contracts of keyinput's bare and Encode.
  Conditions: none beyond those of the contracts.

  The contracts of keyinput's bare and Encode.
  Conditions: none beyond those of the contracts.
-/
import Derived.Test.YtabchbchopgnfaaGreatDoorJKi2
namespace Go.Proofs.YtabchbchopgnfaaGreatDoor
open Go Go.AE Go.DE Go.RowKit

theorem br_tree (nm : ByteArray) (r : Int) (c a s b0 b1 b2 b3 b4 b5 b6 b7 : Bool) (x y z : Int) (k : DV → Option Unit) : bodyD Tryz.prog (env [] noLp 0) Tryz.f21 [.agg [sv nm, kv .i32 r, bv c, bv a, bv s], .agg [bv b0, bv b1, bv b2, bv b3, bv b4, bv b5, bv b6, bv b7, kv .u8 x, kv .u8 y, iv z]] [] (fun d _ => k d) =
    bif ByteArray.toList nm == ByteArray.toList { data := #[] } then bif c then k (DV.v (Value.string (bytesS (1 : Nat) fun j => numD (DC.get (subC (DBlk.c (blockOf (1 : Nat) [DV.v (Value.int IntKind.u8 (IntKind.wrap IntKind.u8 (IntKind.wrap IntKind.u8 (IntKind.wrap IntKind.i32 (r - (97 : Int))) + (1 : Int))))])) (0 : Nat) (1 : Nat)) j (0 : Nat)))))
    else k (DV.v (Value.string (Utf8.encode r))) else bif ByteArray.toList nm == ByteArray.toList { data := #[(84 : UInt8), (97 : UInt8), (98 : UInt8)] } then k (DV.v (Value.string { data := #[(9 : UInt8)] }))
    else bif ByteArray.toList nm == ByteArray.toList { data := #[(69 : UInt8), (110 : UInt8), (116 : UInt8), (101 : UInt8), (114 : UInt8)] } then bif b1 then k (DV.v (Value.string { data := #[(13 : UInt8), (10 : UInt8)] }))
    else k (DV.v (Value.string { data := #[(13 : UInt8)] })) else bif ByteArray.toList nm == ByteArray.toList { data := #[(69 : UInt8), (115 : UInt8), (99 : UInt8), (97 : UInt8), (112 : UInt8), (101 : UInt8)] }
    then k (DV.v (Value.string { data := #[(27 : UInt8)] })) else bif ByteArray.toList nm == ByteArray.toList { data := #[(66 : UInt8), (97 : UInt8), (99 : UInt8), (107 : UInt8), (115 : UInt8), (112 : UInt8), (97 : UInt8), (99 : UInt8), (101 : UInt8)] }
    then k (DV.v (Value.string { data := #[(127 : UInt8)] })) else k (DV.v (Value.string { data := #[] })) := by
  kernel_rfl
noncomputable def brC (G : ByteArray → Int → Bool → Bool → Bool → Bool → Bool → Bool → Bool → Bool → Bool → Bool → Bool → Int → Int → Int → ByteArray) : ConF := fun args k => match args with
  | [.agg [.v (.string nm), .v (.int .i32 r), .v (.bool c), .v (.bool a), .v (.bool s)], .agg [.v (.bool b0), .v (.bool b1), .v (.bool b2), .v (.bool b3), .v (.bool b4), .v (.bool b5), .v (.bool b6), .v (.bool b7), .v (.int .u8 x), .v (.int .u8 y), .v (.int .i64 z)]] => k (fun _ => (sv (G nm r c a s b0 b1 b2 b3 b4 b5 b6 b7 x y z), []))
  | _ => none
/-- What named answers. -/
noncomputable def ndF (nm : ByteArray) (r : Int) (c a s b0 b1 b2 b3 b4 b5 b6 b7 : Bool) (x y z : Int) : ByteArray := match namedV [keyV nm r c a s, mdV b0 b1 b2 b3 b4 b5 b6 b7 x y z] with
  | some (.string t) => t
  | _ => ⟨#[]⟩
noncomputable def ndC (H : ByteArray → Int → Bool → Bool → Bool → Bool → Bool → Bool → Bool → Bool → Bool → Bool → Bool → Int → Int → Int → ByteArray) : ConF := fun args k => match args with
  | [.agg [.v (.string nm), .v (.int .i32 r), .v (.bool c), .v (.bool a), .v (.bool s)], .agg [.v (.bool b0), .v (.bool b1), .v (.bool b2), .v (.bool b3), .v (.bool b4), .v (.bool b5), .v (.bool b6), .v (.bool b7), .v (.int .u8 x), .v (.int .u8 y), .v (.int .i64 z)]] => bif holds (isName nm) then k (fun _ => (sv (H nm r c a s b0 b1 b2 b3 b4 b5 b6 b7 x y z), [])) else none
  | _ => none
theorem en_tree (F : ByteArray → Int → Bool → Bool → Bool → Int) (G H : ByteArray → Int → Bool → Bool → Bool → Bool → Bool → Bool → Bool → Bool → Bool → Bool → Bool → Int → Int → Int → ByteArray) (nm : ByteArray) (r : Int) (c a s b0 b1 b2 b3 b4 b5 b6 b7 : Bool) (x y z : Int) (k : DV → Option Unit) : bodyD Tryz.prog (env [(20, ckkC F), (21, brC G), (22, ndC H)] noLp 0) Tryz.f7 [.agg [sv nm, kv .i32 r, bv c, bv a, bv s], .agg [bv b0, bv b1, bv b2, bv b3, bv b4, bv b5, bv b6, bv b7, kv .u8 x, kv .u8 y, iv z]] [] (fun d _ => k d) =
    bif F nm r c a s != (0 : Int) then k (DV.tup [DV.v (Value.string { data := #[] }), DV.v (Value.int IntKind.i64 (F nm r c a s))]) else bif ByteArray.toList (G nm r c a s b0 b1 b2 b3 b4 b5 b6 b7 x y z) == ByteArray.toList { data := #[] }
    then bif holds (nm = { data := #[] } ∨ ∃ i, i < (26 : Nat) ∧ nm = nmZ i) then k (DV.tup [DV.v (Value.string (H nm r c a s b0 b1 b2 b3 b4 b5 b6 b7 x y z)), DV.v (Value.int IntKind.i64 (0 : Int))]) else none
    else bif ByteArray.toList nm == ByteArray.toList { data := #[(84 : UInt8), (97 : UInt8), (98 : UInt8)] } then bif s then k (DV.tup [DV.v (Value.string { data := #[(27 : UInt8), (91 : UInt8), (90 : UInt8)] }), DV.v (Value.int IntKind.i64 (0 : Int))])
    else bif a then bif decide ((1 : Nat) + ByteArray.size (G nm r c a s b0 b1 b2 b3 b4 b5 b6 b7 x y z) ≤ (9223372036854775807 : Nat)) then k (DV.tup [DV.v (Value.string ({ data := #[(27 : UInt8)] } ++ G nm r c a s b0 b1 b2 b3 b4 b5 b6 b7 x y z)), DV.v (Value.int IntKind.i64 (0 : Int))])
    else none else k (DV.tup [DV.v (Value.string (G nm r c a s b0 b1 b2 b3 b4 b5 b6 b7 x y z)), DV.v (Value.int IntKind.i64 (0 : Int))]) else bif a then bif decide ((1 : Nat) + ByteArray.size (G nm r c a s b0 b1 b2 b3 b4 b5 b6 b7 x y z) ≤ (9223372036854775807 : Nat))
    then k (DV.tup [DV.v (Value.string ({ data := #[(27 : UInt8)] } ++ G nm r c a s b0 b1 b2 b3 b4 b5 b6 b7 x y z)), DV.v (Value.int IntKind.i64 (0 : Int))]) else none else k (DV.tup [DV.v (Value.string (G nm r c a s b0 b1 b2 b3 b4 b5 b6 b7 x y z)), DV.v (Value.int IntKind.i64 (0 : Int))]) := by
  kernel_rfl
noncomputable def brF (nm : ByteArray) (r : Int) (c a s b0 b1 b2 b3 b4 b5 b6 b7 : Bool) (x y z : Int) : ByteArray :=
    bif ByteArray.toList nm == ByteArray.toList { data := #[] } then bif c then ((bytesS (1 : Nat) fun j => numD (DC.get (subC (DBlk.c (blockOf (1 : Nat) [DV.v (Value.int IntKind.u8 (IntKind.wrap IntKind.u8 (IntKind.wrap IntKind.u8 (IntKind.wrap IntKind.i32 (r - (97 : Int))) + (1 : Int))))])) (0 : Nat) (1 : Nat)) j (0 : Nat))))
    else ((Utf8.encode r)) else bif ByteArray.toList nm == ByteArray.toList { data := #[(84 : UInt8), (97 : UInt8), (98 : UInt8)] } then ({ data := #[(9 : UInt8)] }) else bif ByteArray.toList nm == ByteArray.toList { data := #[(69 : UInt8), (110 : UInt8), (116 : UInt8), (101 : UInt8), (114 : UInt8)] }
    then bif b1 then ({ data := #[(13 : UInt8), (10 : UInt8)] }) else ({ data := #[(13 : UInt8)] }) else bif ByteArray.toList nm == ByteArray.toList { data := #[(69 : UInt8), (115 : UInt8), (99 : UInt8), (97 : UInt8), (112 : UInt8), (101 : UInt8)] }
    then ({ data := #[(27 : UInt8)] }) else bif ByteArray.toList nm == ByteArray.toList { data := #[(66 : UInt8), (97 : UInt8), (99 : UInt8), (107 : UInt8), (115 : UInt8), (112 : UInt8), (97 : UInt8), (99 : UInt8), (101 : UInt8)] }
    then ({ data := #[(127 : UInt8)] }) else ({ data := #[] })
noncomputable def enF (F : ByteArray → Int → Bool → Bool → Bool → Int) (G H : ByteArray → Int → Bool → Bool → Bool → Bool → Bool → Bool → Bool → Bool → Bool → Bool → Bool → Int → Int → Int → ByteArray) (nm : ByteArray) (r : Int) (c a s b0 b1 b2 b3 b4 b5 b6 b7 : Bool) (x y z : Int) : ByteArray × Int :=
    bif F nm r c a s != (0 : Int) then (({ data := #[] }, (F nm r c a s))) else bif ByteArray.toList (G nm r c a s b0 b1 b2 b3 b4 b5 b6 b7 x y z) == ByteArray.toList { data := #[] } then bif holds (nm = { data := #[] } ∨ ∃ i, i < (26 : Nat) ∧ nm = nmZ i)
    then (((H nm r c a s b0 b1 b2 b3 b4 b5 b6 b7 x y z), (0 : Int))) else (⟨#[]⟩, 0) else bif ByteArray.toList nm == ByteArray.toList { data := #[(84 : UInt8), (97 : UInt8), (98 : UInt8)] } then bif s
    then (({ data := #[(27 : UInt8), (91 : UInt8), (90 : UInt8)] }, (0 : Int))) else bif a then bif decide ((1 : Nat) + ByteArray.size (G nm r c a s b0 b1 b2 b3 b4 b5 b6 b7 x y z) ≤ (9223372036854775807 : Nat))
    then ((({ data := #[(27 : UInt8)] } ++ G nm r c a s b0 b1 b2 b3 b4 b5 b6 b7 x y z), (0 : Int))) else (⟨#[]⟩, 0) else (((G nm r c a s b0 b1 b2 b3 b4 b5 b6 b7 x y z), (0 : Int))) else bif a then bif decide ((1 : Nat) + ByteArray.size (G nm r c a s b0 b1 b2 b3 b4 b5 b6 b7 x y z) ≤ (9223372036854775807 : Nat))
    then ((({ data := #[(27 : UInt8)] } ++ G nm r c a s b0 b1 b2 b3 b4 b5 b6 b7 x y z), (0 : Int))) else (⟨#[]⟩, 0) else (((G nm r c a s b0 b1 b2 b3 b4 b5 b6 b7 x y z), (0 : Int)))
end Go.Proofs.YtabchbchopgnfaaGreatDoor

namespace Go.Proofs.YtabchbchopgnfaaGreatDoor
open Go Go.AE Go.DE Go.RowKit

theorem br_true (nm : ByteArray) (r : Int) (c a s b0 b1 b2 b3 b4 b5 b6 b7 : Bool) (x y z : Int) : bodyD Tryz.prog (env [] noLp 0) Tryz.f21 [.agg [sv nm, kv .i32 r, bv c, bv a, bv s], .agg [bv b0, bv b1, bv b2, bv b3, bv b4, bv b5, bv b6, bv b7, kv .u8 x, kv .u8 y, iv z]] [] (fun d _ => isD (sv (brF nm r c a s b0 b1 b2 b3 b4 b5 b6 b7 x y z)) d) = some () := by
  refine (br_tree nm r c a s b0 b1 b2 b3 b4 b5 b6 b7 x y z _).trans ?_
  repeat' (first | (refine isD_of ?_; unfold brF; simp only [*, cond_true, cond_false]; done) | refine cS (fun h => ?_) fun h => ?_)
theorem brC_ok {st : AE.Stat} (hx : ∀ f, f ≠ 5 → f ≠ 22 → ∀ a σ, st.ext f a σ = none) : ConOk Tryz.prog st 21 (brC brF) := by
  refine con_flat (mg := []) (l := []) (lp := noLp) (n := 0) (glOk st) (fun _ h => nomatch h) Tryz.func21 (by kernel_rfl) (by kernel_rfl) (hx 21 (by decide) (by decide)) (fun _ _ _ h => nomatch h) fun args k hk => ?_
  unfold brC at hk
  split at hk <;> first | (cases hk; done) | skip
  exact ⟨_, _, .self (.self .nil), v_clo _, hk, br_true _ _ _ _ _ _ _ _ _ _ _ _ _ _ _ _⟩
theorem ndC_ok {st : AE.Stat} (hx : ∀ a σ, st.ext 22 a σ = RG.app σ (keepX namedV a)) : ConOk Tryz.prog st 22 (ndC ndF) := by
  refine con_ext Tryz.func22 (by kernel_rfl) (by kernel_rfl) fun args k hk => ?_
  unfold ndC at hk
  split at hk <;> first | (cases hk; done) | skip
  rename_i nm r c a s b0 b1 b2 b3 b4 b5 b6 b7 x y z
  obtain ⟨hb, hk⟩ := bif_none hk
  obtain ⟨t, ht⟩ := namedV_all (holds_eq.1 hb) r c a s b0 b1 b2 b3 b4 b5 b6 b7 x y z
  have he : ndF nm r c a s b0 b1 b2 b3 b4 b5 b6 b7 x y z = t := by unfold ndF; rw [ht]
  rw [he] at hk
  refine ⟨.string t, rfl, hk, fun C σ vs _ ha => ?_⟩
  have hv : vs = [keyV nm r c a s, mdV b0 b1 b2 b3 b4 b5 b6 b7 x y z] := flD_args ha rfl
  rw [hx, hv]
  simp only [RG.app, keepX, ht, Option.map_some]
  rfl
noncomputable abbrev enL : List (FuncId × ConF) := [(20, ckkC (kcF cwF nmZ)), (21, brC brF), (22, ndC ndF)]
/-- What Encode answers: the bytes. -/
noncomputable def encS (nm : ByteArray) (r : Int) (c a s b0 b1 b2 b3 b4 b5 b6 b7 : Bool) (x y z : Int) : ByteArray := (enF (kcF cwF nmZ) brF ndF nm r c a s b0 b1 b2 b3 b4 b5 b6 b7 x y z).1
theorem pick_snd {b : Bool} {x y : ByteArray × Int} {v : Int} (hx : x.2 = v) (hy : y.2 = v) : (bif b then x else y).2 = v := by cases b <;> assumption
theorem enc_size4 (i : Int) : (Utf8.encode i).size ≤ 4 := by
  unfold Utf8.encode
  dsimp only
  repeat' split
  all_goals (simp [ByteArray.size])
theorem size_if {b : Bool} {x y : ByteArray} {n : Nat} (hx : x.size ≤ n) (hy : y.size ≤ n) : (bif b then x else y).size ≤ n := by cases b <;> assumption
theorem br_size (nm : ByteArray) (r : Int) (c a s b0 b1 b2 b3 b4 b5 b6 b7 : Bool) (x y z : Int) : (brF nm r c a s b0 b1 b2 b3 b4 b5 b6 b7 x y z).size ≤ 9 := by
  unfold brF
  repeat' (first | exact Nat.le_trans (enc_size4 _) (by decide) | (refine size_if ?_ ?_) | exact Nat.le_of_ble_eq_true rfl)
theorem en_snd (nm : ByteArray) (r : Int) (c a s b0 b1 b2 b3 b4 b5 b6 b7 : Bool) (x y z : Int) : (enF (kcF cwF nmZ) brF ndF nm r c a s b0 b1 b2 b3 b4 b5 b6 b7 x y z).2 = kcF cwF nmZ nm r c a s := by
  unfold enF
  cases h : (kcF cwF nmZ nm r c a s != 0) with
  | true => rfl
  | false =>
    have h : kcF cwF nmZ nm r c a s = 0 := by simpa using h
    rw [h, cond_false]
    refine pick_snd (pick_snd rfl rfl) (pick_snd (pick_snd rfl (pick_snd (pick_snd rfl rfl) rfl)) (pick_snd (pick_snd rfl rfl) rfl))
theorem en_true (nm : ByteArray) (r : Int) (c a s b0 b1 b2 b3 b4 b5 b6 b7 : Bool) (x y z : Int) : bodyD Tryz.prog (env enL noLp 0) Tryz.f7 [.agg [sv nm, kv .i32 r, bv c, bv a, bv s], .agg [bv b0, bv b1, bv b2, bv b3, bv b4, bv b5, bv b6, bv b7, kv .u8 x, kv .u8 y, iv z]] [] (fun d _ => isD (.tup [sv (encS nm r c a s b0 b1 b2 b3 b4 b5 b6 b7 x y z), iv (kcF cwF nmZ nm r c a s)]) d) = some () := by
  refine (en_tree (kcF cwF nmZ) brF ndF nm r c a s b0 b1 b2 b3 b4 b5 b6 b7 x y z _).trans ?_
  have e : encS nm r c a s b0 b1 b2 b3 b4 b5 b6 b7 x y z = (enF (kcF cwF nmZ) brF ndF nm r c a s b0 b1 b2 b3 b4 b5 b6 b7 x y z).1 := rfl
  rw [e]
  have hsz := br_size nm r c a s b0 b1 b2 b3 b4 b5 b6 b7 x y z
  unfold enF
  cases h : (kcF cwF nmZ nm r c a s != 0) with
  | true => exact isD_of rfl
  | false =>
  have hz : kcF cwF nmZ nm r c a s = 0 := by simpa using h
  rw [hz]
  simp only [cond_false]
  refine cS (fun h1 => ?_) fun h1 => ?_
  · have hh : holds (nm = { data := #[] } ∨ ∃ i, i < 26 ∧ nm = nmZ i) = true := holds_eq.2 (kc_isName hz)
    generalize ndF nm r c a s b0 b1 b2 b3 b4 b5 b6 b7 x y z = u
    generalize holds (nm = { data := #[] } ∨ ∃ i, i < 26 ∧ nm = nmZ i) = q at hh ⊢
    subst hh
    rw [h1]
    exact isD_of rfl
  rw [h1]
  simp only [cond_false]
  have hle : decide (1 + (brF nm r c a s b0 b1 b2 b3 b4 b5 b6 b7 x y z).size ≤ 9223372036854775807) = true := decide_eq_true (by omega)
  rw [hle]
  refine cS (fun h2 => ?_) fun h2 => ?_
  · rw [h2]
    refine cS (fun h3 => isD_of (by rw [h3]; rfl)) fun h3 => cS (fun h4 => isD_of (by rw [h3, h4]; rfl)) fun h4 => isD_of (by rw [h3, h4]; rfl)
  · rw [h2]
    refine cS (fun h4 => isD_of (by rw [h4]; rfl)) fun h4 => isD_of (by rw [h4]; rfl)
noncomputable def ecC (S : ByteArray → Int → Bool → Bool → Bool → Bool → Bool → Bool → Bool → Bool → Bool → Bool → Bool → Int → Int → Int → ByteArray) (C : ByteArray → Int → Bool → Bool → Bool → Int) : ConF := fun args k => match args with
  | [.agg [.v (.string nm), .v (.int .i32 r), .v (.bool c), .v (.bool a), .v (.bool s)], .agg [.v (.bool b0), .v (.bool b1), .v (.bool b2), .v (.bool b3), .v (.bool b4), .v (.bool b5), .v (.bool b6), .v (.bool b7), .v (.int .u8 x), .v (.int .u8 y), .v (.int .i64 z)]] => k (fun _ => (.tup [sv (S nm r c a s b0 b1 b2 b3 b4 b5 b6 b7 x y z), iv (C nm r c a s)], []))
  | _ => none
theorem ecC_ok {st : AE.Stat} (hx : ∀ f, f ≠ 5 → f ≠ 22 → ∀ a σ, st.ext f a σ = none) (hn : ∀ a σ, st.ext 22 a σ = RG.app σ (keepX namedV a)) : ConOk Tryz.prog st 7 (ecC encS (kcF cwF nmZ)) := by
  refine con_flat (mg := []) (l := enL) (lp := noLp) (n := 0) (glOk st) (fun x h => ?_) Tryz.func7 (by kernel_rfl) (by kernel_rfl) (hx 7 (by decide) (by decide)) (fun _ _ _ h => nomatch h) fun args k hk => ?_
  · simp only [enL, List.mem_cons, List.not_mem_nil, or_false] at h
    rcases h with rfl | rfl | rfl
    · exact ckkC_ok hx
    · exact brC_ok hx
    · exact ndC_ok hn
  unfold ecC at hk
  split at hk <;> first | (cases hk; done) | skip
  refine ⟨_, _, .self (.self .nil), flR_clo ?_, hk, en_true _ _ _ _ _ _ _ _ _ _ _ _ _ _ _ _⟩
  rfl
end Go.Proofs.YtabchbchopgnfaaGreatDoor
