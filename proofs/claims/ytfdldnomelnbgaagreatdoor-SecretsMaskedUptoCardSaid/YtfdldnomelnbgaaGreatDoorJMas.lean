/-
 The contracts of Mask and of Alike.
 Conditions: none beyond those of the contracts.

 The contract of Alike.
 Conditions: none beyond those of the contracts.

 The contract of Alike, behind its tree.
 Conditions: none beyond those of the contracts.
-/
import Derived.Test.YtfdldnomelnbgaaGreatDoorJSam
namespace Go.Proofs.YtfdldnomelnbgaaGreatDoor
open Go Go.AE Go.DE Go.RowKit

/-- A terminal, out of its cells. -/
def tmOf (ds : List DV) : Tm where
 I j := numD (ds.getD j .any)
 B j := boolD (ds.getD j .any)
 S j := strD (ds.getD j .any)
 gT i := slT (slG (ds.getD 2 .any) i 0)
 gR i := rowD (slG (ds.getD 2 .any) i 0)
 gn := slN (ds.getD 2 .any)
 oT i := slT (slG (ds.getD 5 .any) i 0)
 oR i := rowD (slG (ds.getD 5 .any) i 0)
 on := slN (ds.getD 5 .any)
 tb i := boolD (slG (ds.getD 35 .any) i 0)
 tn := slN (ds.getD 35 .any)
 bT i := slT (slG (ds.getD 36 .any) i 0)
 bR i := rowD (slG (ds.getD 36 .any) i 0)
 bn := slN (ds.getD 36 .any)
/-- A terminal, masked. -/
def Tm.msk (x : Tm) : Tm := { x with gT := fun _ => false, gR := mskR x.gR, oT := fun _ => false, oR := mskR x.oR, bT := fun _ => false, bR := mskR x.bR }
/-- A terminal whose rows have cells. -/
def Tm.pos (x : Tm) : Prop := rowsPos x.gR x.gn ∧ rowsPos x.oR x.on ∧ rowsPos x.bR x.bn ∧ x.tn ≤ 9000000 ∧ 0 < x.tn
theorem are_of {T : Nat → Bool} {R : Nat → Row} {n : Nat} (h : rowsPos R n) : rowsAre (rowsD T R) n := ⟨h.1, fun i hi => ⟨isRow_of (h.2 i hi).1, (h.2 i hi).2⟩⟩
theorem tabsAre_of {z : Nat → Bool} {n : Nat} (h : n ≤ 9000000) (h0 : 0 < n) : tabsAre (tabsD z) n := ⟨h, h0, fun _ _ => rfl⟩
noncomputable abbrev maL (Q Q2 : (Nat → Nat → DV) → Nat → Prop) (M : Row → Row) : List (FuncId × ConF) := [(22, roC Q M), (24, cbC Q2)]
theorem ma_tree (Q Q2 : (Nat → Nat → DV) → Nat → Prop) (M : Row → Row) (x : Tm) (k : DV → Option Unit) : bodyD Tryz.prog (envZ (maL Q Q2 M) noLp 0) Tryz.f7 [.agg x.cells] [] (fun d _ => k d) =
  bif holds (Q (rowsD x.gT x.gR) x.gn) then bif holds (Q (rowsD x.oT x.oR) x.on) then bif holds (Q (rowsD x.bT x.bR) x.bn) then bif holds (Q2 (tabsD x.tb) x.tn) then k (.agg [iv (x.I 0), iv (x.I 1), .sl false (fun a a_1 => DV.sl ((fun x => false) a) (Row.cell ((fun i => M { n := slN (.sl (x.gT i) (Row.cell (x.gR i)) 5 (Row.n (x.gR i))), tx := fun j => strD (sv (Row.tx (x.gR i) j)), wd := fun j => numD (iv (Row.wd (x.gR i) j)), fo := fun j => numD (iv (Row.fo (x.gR i) j)), ba := fun j => numD (iv (Row.ba (x.gR i) j)), fl := fun j => numD (iv (Row.fl (x.gR i) j)) }) a)) 5 (Row.n ((fun i => M { n := slN (.sl (x.gT i) (Row.cell (x.gR i)) 5 (Row.n (x.gR i))), tx := fun j => strD (sv (Row.tx (x.gR i) j)), wd := fun j => numD (iv (Row.wd (x.gR i) j)), fo := fun j => numD (iv (Row.fo (x.gR i) j)), ba := fun j => numD (iv (Row.ba (x.gR i) j)), fl := fun j => numD (iv (Row.fl (x.gR i) j)) }) a))) 1 x.gn, iv (x.I 3), iv (x.I 4), .sl false (fun a a_1 => DV.sl ((fun x => false) a) (Row.cell ((fun i => M { n := slN (.sl (x.oT i) (Row.cell (x.oR i)) 5 (Row.n (x.oR i))), tx := fun j => strD (sv (Row.tx (x.oR i) j)), wd := fun j => numD (iv (Row.wd (x.oR i) j)), fo := fun j => numD (iv (Row.fo (x.oR i) j)), ba := fun j => numD (iv (Row.ba (x.oR i) j)), fl := fun j => numD (iv (Row.fl (x.oR i) j)) }) a)) 5 (Row.n ((fun i => M { n := slN (.sl (x.oT i) (Row.cell (x.oR i)) 5 (Row.n (x.oR i))), tx := fun j => strD (sv (Row.tx (x.oR i) j)), wd := fun j => numD (iv (Row.wd (x.oR i) j)), fo := fun j => numD (iv (Row.fo (x.oR i) j)), ba := fun j => numD (iv (Row.ba (x.oR i) j)), fl := fun j => numD (iv (Row.fl (x.oR i) j)) }) a))) 1 x.on, iv (x.I 6), iv (x.I 7), bv (x.B 8), iv (x.I 9), iv (x.I 10), bv (x.B 11), iv (x.I 12), iv (x.I 13), iv (x.I 14), bv (x.B 15), kv .u8 ((x.I 16)), kv .u8 ((x.I 17)), iv (x.I 18), iv (x.I 19), iv (x.I 20), iv (x.I 21), bv (x.B 22), bv (x.B 23), bv (x.B 24), bv (x.B 25), bv (x.B 26), bv (x.B 27), bv (x.B 28), bv (x.B 29), kv .u8 ((x.I 30)), kv .u8 ((x.I 31)), iv (x.I 32), iv (x.I 33), iv (x.I 34), .sl false (fun a a_1 => bv ((fun i => boolD (bv (x.tb i))) a)) 1 x.tn, .sl false (fun a a_1 => DV.sl ((fun x => false) a) (Row.cell ((fun i => M { n := slN (.sl (x.bT i) (Row.cell (x.bR i)) 5 (Row.n (x.bR i))), tx := fun j => strD (sv (Row.tx (x.bR i) j)), wd := fun j => numD (iv (Row.wd (x.bR i) j)), fo := fun j => numD (iv (Row.fo (x.bR i) j)), ba := fun j => numD (iv (Row.ba (x.bR i) j)), fl := fun j => numD (iv (Row.fl (x.bR i) j)) }) a)) 5 (Row.n ((fun i => M { n := slN (.sl (x.bT i) (Row.cell (x.bR i)) 5 (Row.n (x.bR i))), tx := fun j => strD (sv (Row.tx (x.bR i) j)), wd := fun j => numD (iv (Row.wd (x.bR i) j)), fo := fun j => numD (iv (Row.fo (x.bR i) j)), ba := fun j => numD (iv (Row.ba (x.bR i) j)), fl := fun j => numD (iv (Row.fl (x.bR i) j)) }) a))) 1 x.bn, iv (x.I 37), sv (x.S 38), sv (x.S 39), sv (x.S 40), sv (x.S 41)])
  else none else none else none else none := by
 kernel_rfl
theorem rows_low' {t : Bool} {T : Nat → Bool} {R : Nat → Row} {n : Nat} (h : t = false) (hT : ∀ i, T i = false) : Low (.sl t (rowsD T R) 1 n) := by
 subst h
 refine .sl fun i f _ _ => ?_
 show Low (.sl (T i) _ _ _)
 rw [hT i]
 exact .sl fun j g _ _ => row_low _ _ _
theorem Tm.clo_agg (x : Tm) : Clo (.agg x.cells) := Clo.agg x.clo
theorem Low.agg {cs : List DV} (h : ∀ c ∈ cs, Low c) : Low (.agg cs) := fun C C' μ y hC hy => by
 cases hy with
 | agg _ vs h1 h2 => exact .agg cs vs h1 fun i d x hd hx => h d (List.mem_of_getElem? hd) C C' μ x hC (h2 i d x hd hx)
theorem msk_low (x : Tm) : Low (.agg x.msk.cells) := Low.agg fun d hd => by
 simp only [Tm.cells, List.mem_cons, List.not_mem_nil, or_false] at hd
 repeat (first | (rcases hd with rfl | hd; first | exact Low.v _ | exact rows_low' rfl (fun _ => rfl) | exact .sl fun _ _ _ _ => .v _) | (subst hd; exact Low.v _))
noncomputable def maC (Q : List DV → Prop) (M : List DV → Tm) : ConF := fun args k => match args with
 | [.agg l] => bif holds (Q l) then k (fun _ => (.agg (M l).cells, [])) else none
 | _ => none
def mskL (l : List DV) : Tm := (tmOf l).msk
def tmHere (l : List DV) : Prop := l = (tmOf l).cells ∧ (tmOf l).pos
theorem maC_ok {st : AE.Stat} (hx : ∀ f, exA f = false → ∀ a σ, st.ext f a σ = none) : ConOkZ true Tryz.prog st 7 (maC tmHere mskL) := by
 refine con_flatZ (mg := []) (l := maL rowsAre tabsAre Row.msk) (lp := noLp) (n := 0) (glOk st) (fun x h => ?_) Tryz.func7 (by kernel_rfl) (by kernel_rfl) (hx 7 rfl) (fun _ _ _ h => nomatch h) fun args k hk => ?_
 ·simp only [maL, List.mem_cons, List.not_mem_nil, or_false] at h
  rcases h with rfl | rfl
  ·exact roC_ok hx
  ·exact cbC_ok hx
 unfold maC at hk
 split at hk <;> first | (cases hk; done) | skip
 rename_i l
 obtain ⟨hb, hk⟩ := bif_none hk
 obtain ⟨h1, h2, h3, h4, h5, h6⟩ := holds_eq.1 hb
 refine ⟨[.agg (tmOf l).cells], _, .cons (Cv.of (by rw [← h1])) .nil, ⟨Tm.clo_agg _, msk_low (tmOf l)⟩, hk, ?_⟩
 exact (ma_tree rowsAre tabsAre Row.msk (tmOf l) _).trans (hT (are_of h2) (hT (are_of h3) (hT (are_of h4) (hT (tabsAre_of h5 h6) (isD_of rfl)))))
end Go.Proofs.YtfdldnomelnbgaaGreatDoor

namespace Go.Proofs.YtfdldnomelnbgaaGreatDoor
open Go Go.AE Go.DE Go.RowKit

/-- A contract that says less. -/
theorem con_le {z : Bool} {P : Program} {st : AE.Stat} {f : FuncId} {F G : ConF} (h : ConOkZ z P st f G) (hl : ∀ args k, F args k = some () → G args k = some ()) : ConOkZ z P st f F := fun args k hk => h args k (hl args k hk)
/-- Mask, at two terminals. -/
noncomputable def maT (P1 P2 : List DV → Prop) (x y : Tm) : ConF := fun args k => match args with
 | [.agg l] => bif holds (P1 l) then k (fun _ => (.agg x.cells, [])) else bif holds (P2 l) then k (fun _ => (.agg y.cells, [])) else none
 | _ => none
noncomputable abbrev alL (P1 P2 : List DV → Prop) (x y : Tm) (P Q : (Nat → Nat → DV) → Nat → Prop) (E : (Nat → Row) → Nat → (Nat → Row) → Nat → Bool) (B : (Nat → Bool) → Nat → (Nat → Bool) → Nat → Bool) : List (FuncId × ConF) := [(7, maT P1 P2 x y), (33, sgC P E), (34, srC P E), (35, ebC Q B)]
theorem al_tree (P1 P2 : List DV → Prop) (x' y' : Tm) (P Q : (Nat → Nat → DV) → Nat → Prop) (E : (Nat → Row) → Nat → (Nat → Row) → Nat → Bool) (B : (Nat → Bool) → Nat → (Nat → Bool) → Nat → Bool) (x y : Tm) (k : DV → Option Unit) : bodyD Tryz.prog (envZ (alL P1 P2 x' y' P Q E B) noLp 0) Tryz.f9 [.agg x.cells, .agg y.cells] [] (fun d _ => k d) =
  bif holds (P1 x.cells) then bif holds (P1 y.cells) then bif holds (P (rowsD x'.gT x'.gR) x'.gn ∧ P (rowsD x'.gT x'.gR) x'.gn) then bif bif x'.I 0 == x'.I 0 then bif x'.I 1 == x'.I 1 then E (fun i => rowD (.sl (x'.gT i) (Row.cell (x'.gR i)) 5 (Row.n (x'.gR i)))) x'.gn (fun i => rowD (.sl (x'.gT i) (Row.cell (x'.gR i)) 5 (Row.n (x'.gR i)))) x'.gn
  else false else false then bif holds (P (rowsD x'.oT x'.oR) x'.on ∧ P (rowsD x'.oT x'.oR) x'.on) then bif bif x'.I 3 == x'.I 3 then bif x'.I 4 == x'.I 4 then E (fun i => rowD (.sl (x'.oT i) (Row.cell (x'.oR i)) 5 (Row.n (x'.oR i)))) x'.on (fun i => rowD (.sl (x'.oT i) (Row.cell (x'.oR i)) 5 (Row.n (x'.oR i)))) x'.on
  else false else false then bif holds (P (rowsD x'.bT x'.bR) x'.bn ∧ P (rowsD x'.bT x'.bR) x'.bn) then bif E (fun i => rowD (.sl (x'.bT i) (Row.cell (x'.bR i)) 5 (Row.n (x'.bR i)))) x'.bn (fun i => rowD (.sl (x'.bT i) (Row.cell (x'.bR i)) 5 (Row.n (x'.bR i)))) x'.bn
  then bif holds (Q (tabsD x'.tb) x'.tn ∧ Q (tabsD x'.tb) x'.tn) then bif B (fun j => boolD (bv (x'.tb j))) x'.tn (fun j => boolD (bv (x'.tb j))) x'.tn then bif bif x'.I 6 == x'.I 6 then bif x'.I 7 == x'.I 7
  then bif x'.B 8 == x'.B 8 then true else false else false else false then bif bif bif x'.I 9 == x'.I 9 then bif x'.I 10 == x'.I 10 then bif x'.B 11 == x'.B 11 then true else false else false else false
  then bif bif x'.I 12 == x'.I 12 then bif x'.I 13 == x'.I 13 then bif x'.I 14 == x'.I 14 then true else false else false else false then bif x'.B 15 == x'.B 15 then bif bif x'.I 16 == x'.I 16 then bif x'.I 17 == x'.I 17
  then true else false else false then bif x'.I 18 == x'.I 18 then true else false else false else false else false else false then bif bif x'.I 19 == x'.I 19 then bif x'.I 20 == x'.I 20 then bif x'.I 21 == x'.I 21
  then true else false else false else false then bif bif x'.B 22 == x'.B 22 then bif x'.B 23 == x'.B 23 then bif x'.B 24 == x'.B 24 then bif x'.B 25 == x'.B 25 then bif x'.B 26 == x'.B 26 then bif x'.B 27 == x'.B 27
  then bif x'.B 28 == x'.B 28 then bif x'.B 29 == x'.B 29 then bif bif x'.I 30 == x'.I 30 then bif x'.I 31 == x'.I 31 then true else false else false then bif x'.I 32 == x'.I 32 then true else false
  else false else false else false else false else false else false else false else false else false then bif x'.I 33 == x'.I 33 then bif x'.I 34 == x'.I 34 then bif bif x'.I 37 == x'.I 37 then bif x'.S 38 == x'.S 38
  then bif x'.S 39 == x'.S 39 then true else false else false else false then bif ByteArray.toList (x'.S 40) == ByteArray.toList (x'.S 40) then k (bv (ByteArray.toList (x'.S 41) == ByteArray.toList (x'.S 41)))
  else k (bv false) else k (bv false) else k (bv false) else k (bv false) else k (bv false) else k (bv false) else k (bv false) else k (bv false) else k (bv false) else none else k (bv false) else none
  else k (bv false) else none else k (bv false) else none else bif holds (P2 y.cells) then bif holds (P (rowsD x'.gT x'.gR) x'.gn ∧ P (rowsD y'.gT y'.gR) y'.gn) then bif bif x'.I 0 == y'.I 0 then bif x'.I 1 == y'.I 1
  then E (fun i => rowD (.sl (x'.gT i) (Row.cell (x'.gR i)) 5 (Row.n (x'.gR i)))) x'.gn (fun i => rowD (.sl (y'.gT i) (Row.cell (y'.gR i)) 5 (Row.n (y'.gR i)))) y'.gn else false else false then bif holds (P (rowsD x'.oT x'.oR) x'.on ∧ P (rowsD y'.oT y'.oR) y'.on)
  then bif bif x'.I 3 == y'.I 3 then bif x'.I 4 == y'.I 4 then E (fun i => rowD (.sl (x'.oT i) (Row.cell (x'.oR i)) 5 (Row.n (x'.oR i)))) x'.on (fun i => rowD (.sl (y'.oT i) (Row.cell (y'.oR i)) 5 (Row.n (y'.oR i)))) y'.on
  else false else false then bif holds (P (rowsD x'.bT x'.bR) x'.bn ∧ P (rowsD y'.bT y'.bR) y'.bn) then bif E (fun i => rowD (.sl (x'.bT i) (Row.cell (x'.bR i)) 5 (Row.n (x'.bR i)))) x'.bn (fun i => rowD (.sl (y'.bT i) (Row.cell (y'.bR i)) 5 (Row.n (y'.bR i)))) y'.bn
  then bif holds (Q (tabsD x'.tb) x'.tn ∧ Q (tabsD y'.tb) y'.tn) then bif B (fun j => boolD (bv (x'.tb j))) x'.tn (fun j => boolD (bv (y'.tb j))) y'.tn then bif bif x'.I 6 == y'.I 6 then bif x'.I 7 == y'.I 7
  then bif x'.B 8 == y'.B 8 then true else false else false else false then bif bif bif x'.I 9 == y'.I 9 then bif x'.I 10 == y'.I 10 then bif x'.B 11 == y'.B 11 then true else false else false else false
  then bif bif x'.I 12 == y'.I 12 then bif x'.I 13 == y'.I 13 then bif x'.I 14 == y'.I 14 then true else false else false else false then bif x'.B 15 == y'.B 15 then bif bif x'.I 16 == y'.I 16 then bif x'.I 17 == y'.I 17
  then true else false else false then bif x'.I 18 == y'.I 18 then true else false else false else false else false else false then bif bif x'.I 19 == y'.I 19 then bif x'.I 20 == y'.I 20 then bif x'.I 21 == y'.I 21
  then true else false else false else false then bif bif x'.B 22 == y'.B 22 then bif x'.B 23 == y'.B 23 then bif x'.B 24 == y'.B 24 then bif x'.B 25 == y'.B 25 then bif x'.B 26 == y'.B 26 then bif x'.B 27 == y'.B 27
  then bif x'.B 28 == y'.B 28 then bif x'.B 29 == y'.B 29 then bif bif x'.I 30 == y'.I 30 then bif x'.I 31 == y'.I 31 then true else false else false then bif x'.I 32 == y'.I 32 then true else false
  else false else false else false else false else false else false else false else false else false then bif x'.I 33 == y'.I 33 then bif x'.I 34 == y'.I 34 then bif bif x'.I 37 == y'.I 37 then bif x'.S 38 == y'.S 38
  then bif x'.S 39 == y'.S 39 then true else false else false else false then bif ByteArray.toList (x'.S 40) == ByteArray.toList (y'.S 40) then k (bv (ByteArray.toList (x'.S 41) == ByteArray.toList (y'.S 41)))
  else k (bv false) else k (bv false) else k (bv false) else k (bv false) else k (bv false) else k (bv false) else k (bv false) else k (bv false) else k (bv false) else none else k (bv false) else none
  else k (bv false) else none else k (bv false) else none else none else bif holds (P2 x.cells) then bif holds (P1 y.cells) then bif holds (P (rowsD y'.gT y'.gR) y'.gn ∧ P (rowsD x'.gT x'.gR) x'.gn)
  then bif bif y'.I 0 == x'.I 0 then bif y'.I 1 == x'.I 1 then E (fun i => rowD (.sl (y'.gT i) (Row.cell (y'.gR i)) 5 (Row.n (y'.gR i)))) y'.gn (fun i => rowD (.sl (x'.gT i) (Row.cell (x'.gR i)) 5 (Row.n (x'.gR i)))) x'.gn
  else false else false then bif holds (P (rowsD y'.oT y'.oR) y'.on ∧ P (rowsD x'.oT x'.oR) x'.on) then bif bif y'.I 3 == x'.I 3 then bif y'.I 4 == x'.I 4 then E (fun i => rowD (.sl (y'.oT i) (Row.cell (y'.oR i)) 5 (Row.n (y'.oR i)))) y'.on (fun i => rowD (.sl (x'.oT i) (Row.cell (x'.oR i)) 5 (Row.n (x'.oR i)))) x'.on
  else false else false then bif holds (P (rowsD y'.bT y'.bR) y'.bn ∧ P (rowsD x'.bT x'.bR) x'.bn) then bif E (fun i => rowD (.sl (y'.bT i) (Row.cell (y'.bR i)) 5 (Row.n (y'.bR i)))) y'.bn (fun i => rowD (.sl (x'.bT i) (Row.cell (x'.bR i)) 5 (Row.n (x'.bR i)))) x'.bn
  then bif holds (Q (tabsD y'.tb) y'.tn ∧ Q (tabsD x'.tb) x'.tn) then bif B (fun j => boolD (bv (y'.tb j))) y'.tn (fun j => boolD (bv (x'.tb j))) x'.tn then bif bif y'.I 6 == x'.I 6 then bif y'.I 7 == x'.I 7
  then bif y'.B 8 == x'.B 8 then true else false else false else false then bif bif bif y'.I 9 == x'.I 9 then bif y'.I 10 == x'.I 10 then bif y'.B 11 == x'.B 11 then true else false else false else false
  then bif bif y'.I 12 == x'.I 12 then bif y'.I 13 == x'.I 13 then bif y'.I 14 == x'.I 14 then true else false else false else false then bif y'.B 15 == x'.B 15 then bif bif y'.I 16 == x'.I 16 then bif y'.I 17 == x'.I 17
  then true else false else false then bif y'.I 18 == x'.I 18 then true else false else false else false else false else false then bif bif y'.I 19 == x'.I 19 then bif y'.I 20 == x'.I 20 then bif y'.I 21 == x'.I 21
  then true else false else false else false then bif bif y'.B 22 == x'.B 22 then bif y'.B 23 == x'.B 23 then bif y'.B 24 == x'.B 24 then bif y'.B 25 == x'.B 25 then bif y'.B 26 == x'.B 26 then bif y'.B 27 == x'.B 27
  then bif y'.B 28 == x'.B 28 then bif y'.B 29 == x'.B 29 then bif bif y'.I 30 == x'.I 30 then bif y'.I 31 == x'.I 31 then true else false else false then bif y'.I 32 == x'.I 32 then true else false
  else false else false else false else false else false else false else false else false else false then bif y'.I 33 == x'.I 33 then bif y'.I 34 == x'.I 34 then bif bif y'.I 37 == x'.I 37 then bif y'.S 38 == x'.S 38
  then bif y'.S 39 == x'.S 39 then true else false else false else false then bif ByteArray.toList (y'.S 40) == ByteArray.toList (x'.S 40) then k (bv (ByteArray.toList (y'.S 41) == ByteArray.toList (x'.S 41)))
  else k (bv false) else k (bv false) else k (bv false) else k (bv false) else k (bv false) else k (bv false) else k (bv false) else k (bv false) else k (bv false) else none else k (bv false) else none
  else k (bv false) else none else k (bv false) else none else bif holds (P2 y.cells) then bif holds (P (rowsD y'.gT y'.gR) y'.gn ∧ P (rowsD y'.gT y'.gR) y'.gn) then bif bif y'.I 0 == y'.I 0 then bif y'.I 1 == y'.I 1
  then E (fun i => rowD (.sl (y'.gT i) (Row.cell (y'.gR i)) 5 (Row.n (y'.gR i)))) y'.gn (fun i => rowD (.sl (y'.gT i) (Row.cell (y'.gR i)) 5 (Row.n (y'.gR i)))) y'.gn else false else false then bif holds (P (rowsD y'.oT y'.oR) y'.on ∧ P (rowsD y'.oT y'.oR) y'.on)
  then bif bif y'.I 3 == y'.I 3 then bif y'.I 4 == y'.I 4 then E (fun i => rowD (.sl (y'.oT i) (Row.cell (y'.oR i)) 5 (Row.n (y'.oR i)))) y'.on (fun i => rowD (.sl (y'.oT i) (Row.cell (y'.oR i)) 5 (Row.n (y'.oR i)))) y'.on
  else false else false then bif holds (P (rowsD y'.bT y'.bR) y'.bn ∧ P (rowsD y'.bT y'.bR) y'.bn) then bif E (fun i => rowD (.sl (y'.bT i) (Row.cell (y'.bR i)) 5 (Row.n (y'.bR i)))) y'.bn (fun i => rowD (.sl (y'.bT i) (Row.cell (y'.bR i)) 5 (Row.n (y'.bR i)))) y'.bn
  then bif holds (Q (tabsD y'.tb) y'.tn ∧ Q (tabsD y'.tb) y'.tn) then bif B (fun j => boolD (bv (y'.tb j))) y'.tn (fun j => boolD (bv (y'.tb j))) y'.tn then bif bif y'.I 6 == y'.I 6 then bif y'.I 7 == y'.I 7
  then bif y'.B 8 == y'.B 8 then true else false else false else false then bif bif bif y'.I 9 == y'.I 9 then bif y'.I 10 == y'.I 10 then bif y'.B 11 == y'.B 11 then true else false else false else false
  then bif bif y'.I 12 == y'.I 12 then bif y'.I 13 == y'.I 13 then bif y'.I 14 == y'.I 14 then true else false else false else false then bif y'.B 15 == y'.B 15 then bif bif y'.I 16 == y'.I 16 then bif y'.I 17 == y'.I 17
  then true else false else false then bif y'.I 18 == y'.I 18 then true else false else false else false else false else false then bif bif y'.I 19 == y'.I 19 then bif y'.I 20 == y'.I 20 then bif y'.I 21 == y'.I 21
  then true else false else false else false then bif bif y'.B 22 == y'.B 22 then bif y'.B 23 == y'.B 23 then bif y'.B 24 == y'.B 24 then bif y'.B 25 == y'.B 25 then bif y'.B 26 == y'.B 26 then bif y'.B 27 == y'.B 27
  then bif y'.B 28 == y'.B 28 then bif y'.B 29 == y'.B 29 then bif bif y'.I 30 == y'.I 30 then bif y'.I 31 == y'.I 31 then true else false else false then bif y'.I 32 == y'.I 32 then true else false
  else false else false else false else false else false else false else false else false else false then bif y'.I 33 == y'.I 33 then bif y'.I 34 == y'.I 34 then bif bif y'.I 37 == y'.I 37 then bif y'.S 38 == y'.S 38
  then bif y'.S 39 == y'.S 39 then true else false else false else false then bif ByteArray.toList (y'.S 40) == ByteArray.toList (y'.S 40) then k (bv (ByteArray.toList (y'.S 41) == ByteArray.toList (y'.S 41)))
  else k (bv false) else k (bv false) else k (bv false) else k (bv false) else k (bv false) else k (bv false) else k (bv false) else k (bv false) else k (bv false) else none else k (bv false) else none
  else k (bv false) else none else k (bv false) else none else none else none := by
 kernel_rfl
end Go.Proofs.YtfdldnomelnbgaaGreatDoor

namespace Go.Proofs.YtfdldnomelnbgaaGreatDoor
open Go Go.AE Go.DE Go.RowKit

/-- Whether two masked terminals are the same. -/
def alF (x y : Tm) : Bool :=

 (bif (bif x.I 0 == y.I 0 then
 (bif x.I 1 == y.I 1 then rowsEq x.gR x.gn y.gR y.gn else false) else false) then
 (bif (bif x.I 3 == y.I 3 then
 (bif x.I 4 == y.I 4 then rowsEq x.oR x.on y.oR y.on else false) else false) then
 (bif rowsEq x.bR x.bn y.bR y.bn then
 (bif tabsEq x.tb x.tn y.tb y.tn then
 (bif (bif x.I 6 == y.I 6 then
 (bif x.I 7 == y.I 7 then
 (bif x.B 8 == y.B 8 then true else false) else false) else false) then
 (bif (bif (bif x.I 9 == y.I 9 then
 (bif x.I 10 == y.I 10 then
 (bif x.B 11 == y.B 11 then true else false) else false) else false) then
 (bif (bif x.I 12 == y.I 12 then
 (bif x.I 13 == y.I 13 then
 (bif x.I 14 == y.I 14 then true else false) else false) else false) then
 (bif x.B 15 == y.B 15 then
 (bif (bif x.I 16 == y.I 16 then
 (bif x.I 17 == y.I 17 then true else false) else false) then
 (bif x.I 18 == y.I 18 then true else false) else false) else false) else false) else false) then
 (bif (bif x.I 19 == y.I 19 then
 (bif x.I 20 == y.I 20 then
 (bif x.I 21 == y.I 21 then true else false) else false) else false) then
 (bif (bif x.B 22 == y.B 22 then
 (bif x.B 23 == y.B 23 then
 (bif x.B 24 == y.B 24 then
 (bif x.B 25 == y.B 25 then
 (bif x.B 26 == y.B 26 then
 (bif x.B 27 == y.B 27 then
 (bif x.B 28 == y.B 28 then
 (bif x.B 29 == y.B 29 then
 (bif (bif x.I 30 == y.I 30 then
 (bif x.I 31 == y.I 31 then true else false) else false) then
 (bif x.I 32 == y.I 32 then true else false) else false) else false) else false) else false) else false) else false) else false) else false) else false) then
 (bif x.I 33 == y.I 33 then
 (bif x.I 34 == y.I 34 then
 (bif (bif x.I 37 == y.I 37 then
 (bif x.S 38 == y.S 38 then
 (bif x.S 39 == y.S 39 then true else false) else false) else false) then
 (bif (x.S 40).toList == (y.S 40).toList then ((x.S 41).toList == (y.S 41).toList) else false) else false) else false) else false) else false) else false) else false) else false) else false) else false) else false) else false)
theorem cA {b v w : Bool} {x : Option Unit} (hw : w = (bif b then v else false)) (h : w = v → x = some ()) : (bif b then x else isD (bv w) (bv false)) = some () := by
 cases b
 ·exact isD_of (by rw [hw]; rfl)
 ·exact h hw
theorem Tm.pos_g {x : Tm} (h : x.pos) : rowsOk x.gR x.gn := ⟨h.1.1, fun i hi => (h.1.2 i hi).1⟩
theorem Tm.pos_o {x : Tm} (h : x.pos) : rowsOk x.oR x.on := ⟨h.2.1.1, fun i hi => (h.2.1.2 i hi).1⟩
theorem Tm.pos_b {x : Tm} (h : x.pos) : rowsOk x.bR x.bn := ⟨h.2.2.1.1, fun i hi => (h.2.2.1.2 i hi).1⟩
theorem Tm.pos_t {x : Tm} (h : x.pos) : tabsAre (tabsD x.tb) x.tn := tabsAre_of h.2.2.2.1 h.2.2.2.2
theorem al_true (x y x' y' : Tm) (hx : x'.pos) (hy : y'.pos) (hxy : y.cells = x.cells → y' = x') : bodyD Tryz.prog (envZ (alL (fun l => l = x.cells) (fun l => l = y.cells) x' y' rowsHere tabsAre rowsEq tabsEq) noLp 0) Tryz.f9 [.agg x.cells, .agg y.cells] [] (fun d _ => isD (bv (alF x' y')) d) = some () := by
 refine (al_tree (fun l => l = x.cells) (fun l => l = y.cells) x' y' rowsHere tabsAre rowsEq tabsEq x y _).trans ?_
 obtain ⟨w, hw⟩ : ∃ w, w = alF x' y' := ⟨_, rfl⟩
 rw [← hw]
 unfold alF at hw
 have fin : ∀ {v : Bool}, w = v → isD (bv w) (DV.v (Value.bool v)) = some () := fun h => isD_of (by rw [h])
 refine hT rfl ?_
 by_cases h : y.cells = x.cells
 ·obtain rfl := hxy h
  refine hT h ?_
  exact hT ⟨here_of (Tm.pos_g hx), here_of (Tm.pos_g hx)⟩ (cA hw fun hw => hT ⟨here_of (Tm.pos_o hx), here_of (Tm.pos_o hx)⟩ (cA hw fun hw => hT ⟨here_of (Tm.pos_b hx), here_of (Tm.pos_b hx)⟩ (cA hw fun hw => hT ⟨(Tm.pos_t hx), (Tm.pos_t hx)⟩
   (cA hw fun hw => cA hw fun hw => cA hw fun hw => cA hw fun hw => cA hw fun hw => cA hw fun hw => cA hw fun hw => cA hw fun hw => cA hw fun hw => fin hw))))
 ·refine hF h (hT rfl ?_)
  exact hT ⟨here_of (Tm.pos_g hx), here_of (Tm.pos_g hy)⟩ (cA hw fun hw => hT ⟨here_of (Tm.pos_o hx), here_of (Tm.pos_o hy)⟩ (cA hw fun hw => hT ⟨here_of (Tm.pos_b hx), here_of (Tm.pos_b hy)⟩ (cA hw fun hw => hT ⟨(Tm.pos_t hx), (Tm.pos_t hy)⟩
   (cA hw fun hw => cA hw fun hw => cA hw fun hw => cA hw fun hw => cA hw fun hw => cA hw fun hw => cA hw fun hw => cA hw fun hw => cA hw fun hw => fin hw))))
noncomputable def alC (Q : List DV → Prop) (A : List DV → List DV → Bool) : ConF := fun args k => match args with
 | [.agg l, .agg m] => bif holds (Q l ∧ Q m) then k (fun _ => (bv (A l m), [])) else none
 | _ => none
/-- Whether two terminals are alike. -/
def alikeL (l m : List DV) : Bool := alF (mskL l) (mskL m)
theorem msk_pos {x : Tm} (h : x.pos) : x.msk.pos := by
 obtain ⟨h1, h2, h3, h4, h5⟩ := h
 have sz : ∀ {r : Row}, r.sized ∧ 0 < r.n → r.msk.sized ∧ 0 < r.msk.n := fun {r} h => ⟨⟨h.1.1, fun i hi => by
  show (if i < r.n then mkT r i else r.tx i).size ≤ 9000000
  split
  ·unfold mkT
   cases shown (r.fl i) <;> cases (r.wd i == 1) <;> cases (r.wd i == 2) <;> first | exact h.1.2 i hi | exact (by decide : starT.size ≤ 9000000) | exact (by decide : wideT.size ≤ 9000000)
  ·exact h.1.2 i hi⟩, h.2⟩
 exact ⟨⟨h1.1, fun i hi => sz (h1.2 i hi)⟩, ⟨h2.1, fun i hi => sz (h2.2 i hi)⟩, ⟨h3.1, fun i hi => sz (h3.2 i hi)⟩, h4, h5⟩
theorem alC_ok {st : AE.Stat} (hx : ∀ f, exA f = false → ∀ a σ, st.ext f a σ = none) : ConOkZ true Tryz.prog st 9 (alC tmHere alikeL) := fun args k hk => by
 unfold alC at hk
 split at hk <;> first | (cases hk; done) | skip
 rename_i l m
 obtain ⟨hb, hk⟩ := bif_none hk
 obtain ⟨⟨l1, l2⟩, m1, m2⟩ := holds_eq.1 hb
 refine con_flatZ (F := fun a k' => bif holds (a = [.agg l, .agg m]) then k' (fun _ => (bv (alikeL l m), [])) else none) (mg := []) (l := alL (fun z => z = (tmOf l).cells) (fun z => z = (tmOf m).cells) (mskL l) (mskL m) rowsHere tabsAre rowsEq tabsEq) (lp := noLp) (n := 0) (glOk st) (fun x h => ?_) Tryz.func9 (by kernel_rfl) (by kernel_rfl) (hx 9 rfl) (fun _ _ _ h => nomatch h) (fun args k hk => ?_) _ k (hT rfl hk)
 ·simp only [alL, List.mem_cons, List.not_mem_nil, or_false] at h
  rcases h with rfl | rfl | rfl | rfl
  ·refine con_le (maC_ok hx) fun args k hk => ?_
   have hk : maT (fun z => z = (tmOf l).cells) (fun z => z = (tmOf m).cells) (mskL l) (mskL m) args k = some () := hk
   unfold maT at hk
   split at hk <;> first | (cases hk; done) | skip
   rename_i z _
   rcases bif_some hk with ⟨e, hk⟩ | ⟨_, hk⟩
   ·have e : z = (tmOf l).cells := holds_eq.1 e
    rw [← l1] at e
    subst e
    exact hT ⟨l1, l2⟩ hk
   ·obtain ⟨e, hk⟩ := bif_none hk
    have e : z = (tmOf m).cells := holds_eq.1 e
    rw [← m1] at e
    subst e
    exact hT ⟨m1, m2⟩ hk
  ·exact (sgC_ok hx).z
  ·exact (srC_ok hx).z
  ·exact (ebC_ok hx).z
 ·obtain ⟨e, hk2⟩ := bif_none hk
  obtain rfl := holds_eq.1 e
  refine ⟨[.agg (tmOf l).cells, .agg (tmOf m).cells], _, .cons (Cv.of (by rw [← l1])) (.cons (Cv.of (by rw [← m1])) .nil), v_clo _, hk2, al_true (tmOf l) (tmOf m) (mskL l) (mskL m) (msk_pos l2) (msk_pos m2) fun h => ?_⟩
  rw [← l1, ← m1] at h
  rw [h]
end Go.Proofs.YtfdldnomelnbgaaGreatDoor
