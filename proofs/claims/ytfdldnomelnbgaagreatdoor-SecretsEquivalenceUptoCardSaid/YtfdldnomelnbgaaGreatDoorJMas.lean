/-
 The contracts of Mask and of Alike.
 Conditions: none beyond those of the contracts.

 The contract of Alike.
 Conditions: none beyond those of the contracts.

 The contract of Alike, behind its tree.
 Conditions: none beyond those of the contracts.
-/
import Derived.Test.YtfdldnomelnbgaaGreatDoorJSam
namespace Go.Proofs.YtfdldnomelnbgaaGreatDoor
open Go Go.AE Go.DE Go.RowKit

/-- A terminal, out of its cells. -/
def tmOf (ds : List DV) : Tm where
 I j := numD (ds.getD j .any)
 B j := boolD (ds.getD j .any)
 S j := strD (ds.getD j .any)
 gT i := slT (slG (ds.getD 2 .any) i 0)
 gR i := rowD (slG (ds.getD 2 .any) i 0)
 gn := slN (ds.getD 2 .any)
 oT i := slT (slG (ds.getD 5 .any) i 0)
 oR i := rowD (slG (ds.getD 5 .any) i 0)
 on := slN (ds.getD 5 .any)
 tb i := boolD (slG (ds.getD 35 .any) i 0)
 tn := slN (ds.getD 35 .any)
 bT i := slT (slG (ds.getD 36 .any) i 0)
 bR i := rowD (slG (ds.getD 36 .any) i 0)
 bn := slN (ds.getD 36 .any)
/-- A terminal, masked. -/
def Tm.msk (x : Tm) : Tm := { x with gT := fun _ => false, gR := mskR x.gR, oT := fun _ => false, oR := mskR x.oR, bT := fun _ => false, bR := mskR x.bR }
/-- A terminal whose rows have cells. -/
def Tm.pos (x : Tm) : Prop := rowsPos x.gR x.gn ∧ rowsPos x.oR x.on ∧ rowsPos x.bR x.bn ∧ x.tn ≤ 9000000 ∧ 0 < x.tn
theorem are_of {T : Nat → Bool} {R : Nat → Row} {n : Nat} (h : rowsPos R n) : rowsAre (rowsD T R) n := ⟨h.1, fun i hi => ⟨isRow_of (h.2 i hi).1, (h.2 i hi).2⟩⟩
theorem tabsAre_of {z : Nat → Bool} {n : Nat} (h : n ≤ 9000000) (h0 : 0 < n) : tabsAre (tabsD z) n := ⟨h, h0, fun _ _ => rfl⟩
noncomputable abbrev maL (Q Q2 : (Nat → Nat → DV) → Nat → Prop) (M : Row → Row) : List (FuncId × ConF) := [(22, roC Q M), (24, cbC Q2)]
theorem ma_tree (Q Q2 : (Nat → Nat → DV) → Nat → Prop) (M : Row → Row) (x : Tm) (k : DV → Option Unit) : bodyD Tryz.prog (envZ (maL Q Q2 M) noLp 0) Tryz.f7 [.agg x.cells] [] (fun d _ => k d) =
   bif holds (Q (rowsD (Tm.gT x) (Tm.gR x)) (Tm.gn x)) then bif holds (Q (rowsD (Tm.oT x) (Tm.oR x)) (Tm.on x)) then bif holds (Q (rowsD (Tm.bT x) (Tm.bR x)) (Tm.bn x)) then bif holds (Q2 (tabsD (Tm.tb x)) (Tm.tn x))
   then k (.agg [iv (Tm.I x 0), iv (Tm.I x 1), .sl false (fun a a_1 => DV.sl ((fun x => false) a) (Row.cell ((fun i => M { n := slN (.sl (Tm.gT x i) (Row.cell (Tm.gR x i)) 5 (Row.n (Tm.gR x i))), tx := fun j => strD (sv (Row.tx (Tm.gR x i) j)), wd := fun j => numD (iv (Row.wd (Tm.gR x i) j)), fo := fun j => numD (iv (Row.fo (Tm.gR x i) j)), ba := fun j => numD (iv (Row.ba (Tm.gR x i) j)), fl := fun j => numD (iv (Row.fl (Tm.gR x i) j)) }) a)) 5 (Row.n ((fun i => M { n := slN (.sl (Tm.gT x i) (Row.cell (Tm.gR x i)) 5 (Row.n (Tm.gR x i))), tx := fun j => strD (sv (Row.tx (Tm.gR x i) j)), wd := fun j => numD (iv (Row.wd (Tm.gR x i) j)), fo := fun j => numD (iv (Row.fo (Tm.gR x i) j)), ba := fun j => numD (iv (Row.ba (Tm.gR x i) j)), fl := fun j => numD (iv (Row.fl (Tm.gR x i) j)) }) a))) 1 (Tm.gn x), iv (Tm.I x 3), iv (Tm.I x 4), .sl false (fun a a_1 => DV.sl ((fun x => false) a) (Row.cell ((fun i => M { n := slN (.sl (Tm.oT x i) (Row.cell (Tm.oR x i)) 5 (Row.n (Tm.oR x i))), tx := fun j => strD (sv (Row.tx (Tm.oR x i) j)), wd := fun j => numD (iv (Row.wd (Tm.oR x i) j)), fo := fun j => numD (iv (Row.fo (Tm.oR x i) j)), ba := fun j => numD (iv (Row.ba (Tm.oR x i) j)), fl := fun j => numD (iv (Row.fl (Tm.oR x i) j)) }) a)) 5 (Row.n ((fun i => M { n := slN (.sl (Tm.oT x i) (Row.cell (Tm.oR x i)) 5 (Row.n (Tm.oR x i))), tx := fun j => strD (sv (Row.tx (Tm.oR x i) j)), wd := fun j => numD (iv (Row.wd (Tm.oR x i) j)), fo := fun j => numD (iv (Row.fo (Tm.oR x i) j)), ba := fun j => numD (iv (Row.ba (Tm.oR x i) j)), fl := fun j => numD (iv (Row.fl (Tm.oR x i) j)) }) a))) 1 (Tm.on x), iv (Tm.I x 6), iv (Tm.I x 7), bv (Tm.B x 8), iv (Tm.I x 9), iv (Tm.I x 10), bv (Tm.B x 11), iv (Tm.I x 12), iv (Tm.I x 13), iv (Tm.I x 14), bv (Tm.B x 15), kv .u8 ((Tm.I x 16)), kv .u8 ((Tm.I x 17)), iv (Tm.I x 18), iv (Tm.I x 19), iv (Tm.I x 20), iv (Tm.I x 21), bv (Tm.B x 22), bv (Tm.B x 23), bv (Tm.B x 24), bv (Tm.B x 25), bv (Tm.B x 26), bv (Tm.B x 27), bv (Tm.B x 28), bv (Tm.B x 29), kv .u8 ((Tm.I x 30)), kv .u8 ((Tm.I x 31)), iv (Tm.I x 32), iv (Tm.I x 33), iv (Tm.I x 34), .sl false (fun a a_1 => bv ((fun i => boolD (bv (Tm.tb x i))) a)) 1 (Tm.tn x), .sl false (fun a a_1 => DV.sl ((fun x => false) a) (Row.cell ((fun i => M { n := slN (.sl (Tm.bT x i) (Row.cell (Tm.bR x i)) 5 (Row.n (Tm.bR x i))), tx := fun j => strD (sv (Row.tx (Tm.bR x i) j)), wd := fun j => numD (iv (Row.wd (Tm.bR x i) j)), fo := fun j => numD (iv (Row.fo (Tm.bR x i) j)), ba := fun j => numD (iv (Row.ba (Tm.bR x i) j)), fl := fun j => numD (iv (Row.fl (Tm.bR x i) j)) }) a)) 5 (Row.n ((fun i => M { n := slN (.sl (Tm.bT x i) (Row.cell (Tm.bR x i)) 5 (Row.n (Tm.bR x i))), tx := fun j => strD (sv (Row.tx (Tm.bR x i) j)), wd := fun j => numD (iv (Row.wd (Tm.bR x i) j)), fo := fun j => numD (iv (Row.fo (Tm.bR x i) j)), ba := fun j => numD (iv (Row.ba (Tm.bR x i) j)), fl := fun j => numD (iv (Row.fl (Tm.bR x i) j)) }) a))) 1 (Tm.bn x), iv (Tm.I x 37), sv (Tm.S x 38), sv (Tm.S x 39), sv (Tm.S x 40), sv (Tm.S x 41)])
   else none else none else none else none := by
 kernel_rfl
theorem rows_low' {t : Bool} {T : Nat → Bool} {R : Nat → Row} {n : Nat} (h : t = false) (hT : ∀ i, T i = false) : Low (.sl t (rowsD T R) 1 n) := by
 subst h
 refine .sl fun i f _ _ => ?_
 show Low (.sl (T i) _ _ _)
 rw [hT i]
 exact .sl fun j g _ _ => row_low _ _ _
theorem Tm.clo_agg (x : Tm) : Clo (.agg x.cells) := Clo.agg x.clo
theorem Low.agg {cs : List DV} (h : ∀ c ∈ cs, Low c) : Low (.agg cs) := fun C C' μ y hC hy => by
 cases hy with
 | agg _ vs h1 h2 => exact .agg cs vs h1 fun i d x hd hx => h d (List.mem_of_getElem? hd) C C' μ x hC (h2 i d x hd hx)
theorem msk_low (x : Tm) : Low (.agg x.msk.cells) := Low.agg fun d hd => by
 simp only [Tm.cells, List.mem_cons, List.not_mem_nil, or_false] at hd
 repeat (first | (rcases hd with rfl | hd; first | exact Low.v _ | exact rows_low' rfl (fun _ => rfl) | exact .sl fun _ _ _ _ => .v _) | (subst hd; exact Low.v _))
noncomputable def maC (Q : List DV → Prop) (M : List DV → Tm) : ConF := fun args k => match args with
 | [.agg l] => bif holds (Q l) then k (fun _ => (.agg (M l).cells, [])) else none
 | _ => none
def mskL (l : List DV) : Tm := (tmOf l).msk
def tmHere (l : List DV) : Prop := l = (tmOf l).cells ∧ (tmOf l).pos
theorem maC_ok {st : AE.Stat} (hx : ∀ f, exA f = false → ∀ a σ, st.ext f a σ = none) : ConOkZ true Tryz.prog st 7 (maC tmHere mskL) := by
 refine con_flatZ (mg := []) (l := maL rowsAre tabsAre Row.msk) (lp := noLp) (n := 0) (glOk st) (fun x h => ?_) Tryz.func7 (by kernel_rfl) (by kernel_rfl) (hx 7 rfl) (fun _ _ _ h => nomatch h) fun args k hk => ?_
 · simp only [maL, List.mem_cons, List.not_mem_nil, or_false] at h
   rcases h with rfl | rfl
   · exact roC_ok hx
   · exact cbC_ok hx
 unfold maC at hk
 split at hk <;> first | (cases hk; done) | skip
 rename_i l
 obtain ⟨hb, hk⟩ := bif_none hk
 obtain ⟨h1, h2, h3, h4, h5, h6⟩ := holds_eq.1 hb
 refine ⟨[.agg (tmOf l).cells], _, .cons (Cv.of (by rw [← h1])) .nil, ⟨Tm.clo_agg _, msk_low (tmOf l)⟩, hk, ?_⟩
 exact (ma_tree rowsAre tabsAre Row.msk (tmOf l) _).trans (hT (are_of h2) (hT (are_of h3) (hT (are_of h4) (hT (tabsAre_of h5 h6) (isD_of rfl)))))
end Go.Proofs.YtfdldnomelnbgaaGreatDoor

namespace Go.Proofs.YtfdldnomelnbgaaGreatDoor
open Go Go.AE Go.DE Go.RowKit

/-- A contract that says less. -/
theorem con_le {z : Bool} {P : Program} {st : AE.Stat} {f : FuncId} {F G : ConF} (h : ConOkZ z P st f G) (hl : ∀ args k, F args k = some () → G args k = some ()) : ConOkZ z P st f F := fun args k hk => h args k (hl args k hk)
/-- Mask, at two terminals. -/
noncomputable def maT (P1 P2 : List DV → Prop) (x y : Tm) : ConF := fun args k => match args with
 | [.agg l] => bif holds (P1 l) then k (fun _ => (.agg x.cells, [])) else bif holds (P2 l) then k (fun _ => (.agg y.cells, [])) else none
 | _ => none
noncomputable abbrev alL (P1 P2 : List DV → Prop) (x y : Tm) (P Q : (Nat → Nat → DV) → Nat → Prop) (E : (Nat → Row) → Nat → (Nat → Row) → Nat → Bool) (B : (Nat → Bool) → Nat → (Nat → Bool) → Nat → Bool) : List (FuncId × ConF) := [(7, maT P1 P2 x y), (33, sgC P E), (34, srC P E), (35, ebC Q B)]
theorem al_tree (P1 P2 : List DV → Prop) (x' y' : Tm) (P Q : (Nat → Nat → DV) → Nat → Prop) (E : (Nat → Row) → Nat → (Nat → Row) → Nat → Bool) (B : (Nat → Bool) → Nat → (Nat → Bool) → Nat → Bool) (x y : Tm) (k : DV → Option Unit) : bodyD Tryz.prog (envZ (alL P1 P2 x' y' P Q E B) noLp 0) Tryz.f9 [.agg x.cells, .agg y.cells] [] (fun d _ => k d) =
   bif holds (P1 (Tm.cells x)) then bif holds (P1 (Tm.cells y)) then bif holds (P (rowsD (Tm.gT x') (Tm.gR x')) (Tm.gn x') ∧ P (rowsD (Tm.gT x') (Tm.gR x')) (Tm.gn x')) then bif bif Tm.I x' 0 == Tm.I x' 0
   then bif Tm.I x' 1 == Tm.I x' 1 then E (fun i => rowD (.sl (Tm.gT x' i) (Row.cell (Tm.gR x' i)) 5 (Row.n (Tm.gR x' i)))) (Tm.gn x') (fun i => rowD (.sl (Tm.gT x' i) (Row.cell (Tm.gR x' i)) 5 (Row.n (Tm.gR x' i)))) (Tm.gn x')
   else false else false then bif holds (P (rowsD (Tm.oT x') (Tm.oR x')) (Tm.on x') ∧ P (rowsD (Tm.oT x') (Tm.oR x')) (Tm.on x')) then bif bif Tm.I x' 3 == Tm.I x' 3 then bif Tm.I x' 4 == Tm.I x' 4 then E (fun i => rowD (.sl (Tm.oT x' i) (Row.cell (Tm.oR x' i)) 5 (Row.n (Tm.oR x' i)))) (Tm.on x') (fun i => rowD (.sl (Tm.oT x' i) (Row.cell (Tm.oR x' i)) 5 (Row.n (Tm.oR x' i)))) (Tm.on x')
   else false else false then bif holds (P (rowsD (Tm.bT x') (Tm.bR x')) (Tm.bn x') ∧ P (rowsD (Tm.bT x') (Tm.bR x')) (Tm.bn x')) then bif E (fun i => rowD (.sl (Tm.bT x' i) (Row.cell (Tm.bR x' i)) 5 (Row.n (Tm.bR x' i)))) (Tm.bn x') (fun i => rowD (.sl (Tm.bT x' i) (Row.cell (Tm.bR x' i)) 5 (Row.n (Tm.bR x' i)))) (Tm.bn x')
   then bif holds (Q (tabsD (Tm.tb x')) (Tm.tn x') ∧ Q (tabsD (Tm.tb x')) (Tm.tn x')) then bif B (fun j => boolD (bv (Tm.tb x' j))) (Tm.tn x') (fun j => boolD (bv (Tm.tb x' j))) (Tm.tn x') then bif bif Tm.I x' 6 == Tm.I x' 6
   then bif Tm.I x' 7 == Tm.I x' 7 then bif Tm.B x' 8 == Tm.B x' 8 then true else false else false else false then bif bif bif Tm.I x' 9 == Tm.I x' 9 then bif Tm.I x' 10 == Tm.I x' 10 then bif Tm.B x' 11 == Tm.B x' 11
   then true else false else false else false then bif bif Tm.I x' 12 == Tm.I x' 12 then bif Tm.I x' 13 == Tm.I x' 13 then bif Tm.I x' 14 == Tm.I x' 14 then true else false else false else false then
   bif Tm.B x' 15 == Tm.B x' 15 then bif bif Tm.I x' 16 == Tm.I x' 16 then bif Tm.I x' 17 == Tm.I x' 17 then true else false else false then bif Tm.I x' 18 == Tm.I x' 18 then true else false else false
   else false else false else false then bif bif Tm.I x' 19 == Tm.I x' 19 then bif Tm.I x' 20 == Tm.I x' 20 then bif Tm.I x' 21 == Tm.I x' 21 then true else false else false else false then bif bif Tm.B x' 22 == Tm.B x' 22
   then bif Tm.B x' 23 == Tm.B x' 23 then bif Tm.B x' 24 == Tm.B x' 24 then bif Tm.B x' 25 == Tm.B x' 25 then bif Tm.B x' 26 == Tm.B x' 26 then bif Tm.B x' 27 == Tm.B x' 27 then bif Tm.B x' 28 == Tm.B x' 28
   then bif Tm.B x' 29 == Tm.B x' 29 then bif bif Tm.I x' 30 == Tm.I x' 30 then bif Tm.I x' 31 == Tm.I x' 31 then true else false else false then bif Tm.I x' 32 == Tm.I x' 32 then true else false else false
   else false else false else false else false else false else false else false else false then bif Tm.I x' 33 == Tm.I x' 33 then bif Tm.I x' 34 == Tm.I x' 34 then bif bif Tm.I x' 37 == Tm.I x' 37 then
   bif Tm.S x' 38 == Tm.S x' 38 then bif Tm.S x' 39 == Tm.S x' 39 then true else false else false else false then bif ByteArray.toList (Tm.S x' 40) == ByteArray.toList (Tm.S x' 40) then k (bv (ByteArray.toList (Tm.S x' 41) == ByteArray.toList (Tm.S x' 41)))
   else k (bv false) else k (bv false) else k (bv false) else k (bv false) else k (bv false) else k (bv false) else k (bv false) else k (bv false) else k (bv false) else none else k (bv false) else none
   else k (bv false) else none else k (bv false) else none else bif holds (P2 (Tm.cells y)) then bif holds (P (rowsD (Tm.gT x') (Tm.gR x')) (Tm.gn x') ∧ P (rowsD (Tm.gT y') (Tm.gR y')) (Tm.gn y')) then
   bif bif Tm.I x' 0 == Tm.I y' 0 then bif Tm.I x' 1 == Tm.I y' 1 then E (fun i => rowD (.sl (Tm.gT x' i) (Row.cell (Tm.gR x' i)) 5 (Row.n (Tm.gR x' i)))) (Tm.gn x') (fun i => rowD (.sl (Tm.gT y' i) (Row.cell (Tm.gR y' i)) 5 (Row.n (Tm.gR y' i)))) (Tm.gn y')
   else false else false then bif holds (P (rowsD (Tm.oT x') (Tm.oR x')) (Tm.on x') ∧ P (rowsD (Tm.oT y') (Tm.oR y')) (Tm.on y')) then bif bif Tm.I x' 3 == Tm.I y' 3 then bif Tm.I x' 4 == Tm.I y' 4 then E (fun i => rowD (.sl (Tm.oT x' i) (Row.cell (Tm.oR x' i)) 5 (Row.n (Tm.oR x' i)))) (Tm.on x') (fun i => rowD (.sl (Tm.oT y' i) (Row.cell (Tm.oR y' i)) 5 (Row.n (Tm.oR y' i)))) (Tm.on y')
   else false else false then bif holds (P (rowsD (Tm.bT x') (Tm.bR x')) (Tm.bn x') ∧ P (rowsD (Tm.bT y') (Tm.bR y')) (Tm.bn y')) then bif E (fun i => rowD (.sl (Tm.bT x' i) (Row.cell (Tm.bR x' i)) 5 (Row.n (Tm.bR x' i)))) (Tm.bn x') (fun i => rowD (.sl (Tm.bT y' i) (Row.cell (Tm.bR y' i)) 5 (Row.n (Tm.bR y' i)))) (Tm.bn y')
   then bif holds (Q (tabsD (Tm.tb x')) (Tm.tn x') ∧ Q (tabsD (Tm.tb y')) (Tm.tn y')) then bif B (fun j => boolD (bv (Tm.tb x' j))) (Tm.tn x') (fun j => boolD (bv (Tm.tb y' j))) (Tm.tn y') then bif bif Tm.I x' 6 == Tm.I y' 6
   then bif Tm.I x' 7 == Tm.I y' 7 then bif Tm.B x' 8 == Tm.B y' 8 then true else false else false else false then bif bif bif Tm.I x' 9 == Tm.I y' 9 then bif Tm.I x' 10 == Tm.I y' 10 then bif Tm.B x' 11 == Tm.B y' 11
   then true else false else false else false then bif bif Tm.I x' 12 == Tm.I y' 12 then bif Tm.I x' 13 == Tm.I y' 13 then bif Tm.I x' 14 == Tm.I y' 14 then true else false else false else false then
   bif Tm.B x' 15 == Tm.B y' 15 then bif bif Tm.I x' 16 == Tm.I y' 16 then bif Tm.I x' 17 == Tm.I y' 17 then true else false else false then bif Tm.I x' 18 == Tm.I y' 18 then true else false else false
   else false else false else false then bif bif Tm.I x' 19 == Tm.I y' 19 then bif Tm.I x' 20 == Tm.I y' 20 then bif Tm.I x' 21 == Tm.I y' 21 then true else false else false else false then bif bif Tm.B x' 22 == Tm.B y' 22
   then bif Tm.B x' 23 == Tm.B y' 23 then bif Tm.B x' 24 == Tm.B y' 24 then bif Tm.B x' 25 == Tm.B y' 25 then bif Tm.B x' 26 == Tm.B y' 26 then bif Tm.B x' 27 == Tm.B y' 27 then bif Tm.B x' 28 == Tm.B y' 28
   then bif Tm.B x' 29 == Tm.B y' 29 then bif bif Tm.I x' 30 == Tm.I y' 30 then bif Tm.I x' 31 == Tm.I y' 31 then true else false else false then bif Tm.I x' 32 == Tm.I y' 32 then true else false else false
   else false else false else false else false else false else false else false else false then bif Tm.I x' 33 == Tm.I y' 33 then bif Tm.I x' 34 == Tm.I y' 34 then bif bif Tm.I x' 37 == Tm.I y' 37 then
   bif Tm.S x' 38 == Tm.S y' 38 then bif Tm.S x' 39 == Tm.S y' 39 then true else false else false else false then bif ByteArray.toList (Tm.S x' 40) == ByteArray.toList (Tm.S y' 40) then k (bv (ByteArray.toList (Tm.S x' 41) == ByteArray.toList (Tm.S y' 41)))
   else k (bv false) else k (bv false) else k (bv false) else k (bv false) else k (bv false) else k (bv false) else k (bv false) else k (bv false) else k (bv false) else none else k (bv false) else none
   else k (bv false) else none else k (bv false) else none else none else bif holds (P2 (Tm.cells x)) then bif holds (P1 (Tm.cells y)) then bif holds (P (rowsD (Tm.gT y') (Tm.gR y')) (Tm.gn y') ∧ P (rowsD (Tm.gT x') (Tm.gR x')) (Tm.gn x'))
   then bif bif Tm.I y' 0 == Tm.I x' 0 then bif Tm.I y' 1 == Tm.I x' 1 then E (fun i => rowD (.sl (Tm.gT y' i) (Row.cell (Tm.gR y' i)) 5 (Row.n (Tm.gR y' i)))) (Tm.gn y') (fun i => rowD (.sl (Tm.gT x' i) (Row.cell (Tm.gR x' i)) 5 (Row.n (Tm.gR x' i)))) (Tm.gn x')
   else false else false then bif holds (P (rowsD (Tm.oT y') (Tm.oR y')) (Tm.on y') ∧ P (rowsD (Tm.oT x') (Tm.oR x')) (Tm.on x')) then bif bif Tm.I y' 3 == Tm.I x' 3 then bif Tm.I y' 4 == Tm.I x' 4 then E (fun i => rowD (.sl (Tm.oT y' i) (Row.cell (Tm.oR y' i)) 5 (Row.n (Tm.oR y' i)))) (Tm.on y') (fun i => rowD (.sl (Tm.oT x' i) (Row.cell (Tm.oR x' i)) 5 (Row.n (Tm.oR x' i)))) (Tm.on x')
   else false else false then bif holds (P (rowsD (Tm.bT y') (Tm.bR y')) (Tm.bn y') ∧ P (rowsD (Tm.bT x') (Tm.bR x')) (Tm.bn x')) then bif E (fun i => rowD (.sl (Tm.bT y' i) (Row.cell (Tm.bR y' i)) 5 (Row.n (Tm.bR y' i)))) (Tm.bn y') (fun i => rowD (.sl (Tm.bT x' i) (Row.cell (Tm.bR x' i)) 5 (Row.n (Tm.bR x' i)))) (Tm.bn x')
   then bif holds (Q (tabsD (Tm.tb y')) (Tm.tn y') ∧ Q (tabsD (Tm.tb x')) (Tm.tn x')) then bif B (fun j => boolD (bv (Tm.tb y' j))) (Tm.tn y') (fun j => boolD (bv (Tm.tb x' j))) (Tm.tn x') then bif bif Tm.I y' 6 == Tm.I x' 6
   then bif Tm.I y' 7 == Tm.I x' 7 then bif Tm.B y' 8 == Tm.B x' 8 then true else false else false else false then bif bif bif Tm.I y' 9 == Tm.I x' 9 then bif Tm.I y' 10 == Tm.I x' 10 then bif Tm.B y' 11 == Tm.B x' 11
   then true else false else false else false then bif bif Tm.I y' 12 == Tm.I x' 12 then bif Tm.I y' 13 == Tm.I x' 13 then bif Tm.I y' 14 == Tm.I x' 14 then true else false else false else false then
   bif Tm.B y' 15 == Tm.B x' 15 then bif bif Tm.I y' 16 == Tm.I x' 16 then bif Tm.I y' 17 == Tm.I x' 17 then true else false else false then bif Tm.I y' 18 == Tm.I x' 18 then true else false else false
   else false else false else false then bif bif Tm.I y' 19 == Tm.I x' 19 then bif Tm.I y' 20 == Tm.I x' 20 then bif Tm.I y' 21 == Tm.I x' 21 then true else false else false else false then bif bif Tm.B y' 22 == Tm.B x' 22
   then bif Tm.B y' 23 == Tm.B x' 23 then bif Tm.B y' 24 == Tm.B x' 24 then bif Tm.B y' 25 == Tm.B x' 25 then bif Tm.B y' 26 == Tm.B x' 26 then bif Tm.B y' 27 == Tm.B x' 27 then bif Tm.B y' 28 == Tm.B x' 28
   then bif Tm.B y' 29 == Tm.B x' 29 then bif bif Tm.I y' 30 == Tm.I x' 30 then bif Tm.I y' 31 == Tm.I x' 31 then true else false else false then bif Tm.I y' 32 == Tm.I x' 32 then true else false else false
   else false else false else false else false else false else false else false else false then bif Tm.I y' 33 == Tm.I x' 33 then bif Tm.I y' 34 == Tm.I x' 34 then bif bif Tm.I y' 37 == Tm.I x' 37 then
   bif Tm.S y' 38 == Tm.S x' 38 then bif Tm.S y' 39 == Tm.S x' 39 then true else false else false else false then bif ByteArray.toList (Tm.S y' 40) == ByteArray.toList (Tm.S x' 40) then k (bv (ByteArray.toList (Tm.S y' 41) == ByteArray.toList (Tm.S x' 41)))
   else k (bv false) else k (bv false) else k (bv false) else k (bv false) else k (bv false) else k (bv false) else k (bv false) else k (bv false) else k (bv false) else none else k (bv false) else none
   else k (bv false) else none else k (bv false) else none else bif holds (P2 (Tm.cells y)) then bif holds (P (rowsD (Tm.gT y') (Tm.gR y')) (Tm.gn y') ∧ P (rowsD (Tm.gT y') (Tm.gR y')) (Tm.gn y')) then
   bif bif Tm.I y' 0 == Tm.I y' 0 then bif Tm.I y' 1 == Tm.I y' 1 then E (fun i => rowD (.sl (Tm.gT y' i) (Row.cell (Tm.gR y' i)) 5 (Row.n (Tm.gR y' i)))) (Tm.gn y') (fun i => rowD (.sl (Tm.gT y' i) (Row.cell (Tm.gR y' i)) 5 (Row.n (Tm.gR y' i)))) (Tm.gn y')
   else false else false then bif holds (P (rowsD (Tm.oT y') (Tm.oR y')) (Tm.on y') ∧ P (rowsD (Tm.oT y') (Tm.oR y')) (Tm.on y')) then bif bif Tm.I y' 3 == Tm.I y' 3 then bif Tm.I y' 4 == Tm.I y' 4 then E (fun i => rowD (.sl (Tm.oT y' i) (Row.cell (Tm.oR y' i)) 5 (Row.n (Tm.oR y' i)))) (Tm.on y') (fun i => rowD (.sl (Tm.oT y' i) (Row.cell (Tm.oR y' i)) 5 (Row.n (Tm.oR y' i)))) (Tm.on y')
   else false else false then bif holds (P (rowsD (Tm.bT y') (Tm.bR y')) (Tm.bn y') ∧ P (rowsD (Tm.bT y') (Tm.bR y')) (Tm.bn y')) then bif E (fun i => rowD (.sl (Tm.bT y' i) (Row.cell (Tm.bR y' i)) 5 (Row.n (Tm.bR y' i)))) (Tm.bn y') (fun i => rowD (.sl (Tm.bT y' i) (Row.cell (Tm.bR y' i)) 5 (Row.n (Tm.bR y' i)))) (Tm.bn y')
   then bif holds (Q (tabsD (Tm.tb y')) (Tm.tn y') ∧ Q (tabsD (Tm.tb y')) (Tm.tn y')) then bif B (fun j => boolD (bv (Tm.tb y' j))) (Tm.tn y') (fun j => boolD (bv (Tm.tb y' j))) (Tm.tn y') then bif bif Tm.I y' 6 == Tm.I y' 6
   then bif Tm.I y' 7 == Tm.I y' 7 then bif Tm.B y' 8 == Tm.B y' 8 then true else false else false else false then bif bif bif Tm.I y' 9 == Tm.I y' 9 then bif Tm.I y' 10 == Tm.I y' 10 then bif Tm.B y' 11 == Tm.B y' 11
   then true else false else false else false then bif bif Tm.I y' 12 == Tm.I y' 12 then bif Tm.I y' 13 == Tm.I y' 13 then bif Tm.I y' 14 == Tm.I y' 14 then true else false else false else false then
   bif Tm.B y' 15 == Tm.B y' 15 then bif bif Tm.I y' 16 == Tm.I y' 16 then bif Tm.I y' 17 == Tm.I y' 17 then true else false else false then bif Tm.I y' 18 == Tm.I y' 18 then true else false else false
   else false else false else false then bif bif Tm.I y' 19 == Tm.I y' 19 then bif Tm.I y' 20 == Tm.I y' 20 then bif Tm.I y' 21 == Tm.I y' 21 then true else false else false else false then bif bif Tm.B y' 22 == Tm.B y' 22
   then bif Tm.B y' 23 == Tm.B y' 23 then bif Tm.B y' 24 == Tm.B y' 24 then bif Tm.B y' 25 == Tm.B y' 25 then bif Tm.B y' 26 == Tm.B y' 26 then bif Tm.B y' 27 == Tm.B y' 27 then bif Tm.B y' 28 == Tm.B y' 28
   then bif Tm.B y' 29 == Tm.B y' 29 then bif bif Tm.I y' 30 == Tm.I y' 30 then bif Tm.I y' 31 == Tm.I y' 31 then true else false else false then bif Tm.I y' 32 == Tm.I y' 32 then true else false else false
   else false else false else false else false else false else false else false else false then bif Tm.I y' 33 == Tm.I y' 33 then bif Tm.I y' 34 == Tm.I y' 34 then bif bif Tm.I y' 37 == Tm.I y' 37 then
   bif Tm.S y' 38 == Tm.S y' 38 then bif Tm.S y' 39 == Tm.S y' 39 then true else false else false else false then bif ByteArray.toList (Tm.S y' 40) == ByteArray.toList (Tm.S y' 40) then k (bv (ByteArray.toList (Tm.S y' 41) == ByteArray.toList (Tm.S y' 41)))
   else k (bv false) else k (bv false) else k (bv false) else k (bv false) else k (bv false) else k (bv false) else k (bv false) else k (bv false) else k (bv false) else none else k (bv false) else none
   else k (bv false) else none else k (bv false) else none else none else none := by
 kernel_rfl
end Go.Proofs.YtfdldnomelnbgaaGreatDoor

namespace Go.Proofs.YtfdldnomelnbgaaGreatDoor
open Go Go.AE Go.DE Go.RowKit

/-- Whether two masked terminals are the same. -/
def alF (x y : Tm) : Bool :=

 (bif (bif x.I 0 == y.I 0 then
 (bif x.I 1 == y.I 1 then rowsEq x.gR x.gn y.gR y.gn else false) else false) then
 (bif (bif x.I 3 == y.I 3 then
 (bif x.I 4 == y.I 4 then rowsEq x.oR x.on y.oR y.on else false) else false) then
 (bif rowsEq x.bR x.bn y.bR y.bn then
 (bif tabsEq x.tb x.tn y.tb y.tn then
 (bif (bif x.I 6 == y.I 6 then
 (bif x.I 7 == y.I 7 then
 (bif x.B 8 == y.B 8 then true else false) else false) else false) then
 (bif (bif (bif x.I 9 == y.I 9 then
 (bif x.I 10 == y.I 10 then
 (bif x.B 11 == y.B 11 then true else false) else false) else false) then
 (bif (bif x.I 12 == y.I 12 then
 (bif x.I 13 == y.I 13 then
 (bif x.I 14 == y.I 14 then true else false) else false) else false) then
 (bif x.B 15 == y.B 15 then
 (bif (bif x.I 16 == y.I 16 then
 (bif x.I 17 == y.I 17 then true else false) else false) then
 (bif x.I 18 == y.I 18 then true else false) else false) else false) else false) else false) then
 (bif (bif x.I 19 == y.I 19 then
 (bif x.I 20 == y.I 20 then
 (bif x.I 21 == y.I 21 then true else false) else false) else false) then
 (bif (bif x.B 22 == y.B 22 then
 (bif x.B 23 == y.B 23 then
 (bif x.B 24 == y.B 24 then
 (bif x.B 25 == y.B 25 then
 (bif x.B 26 == y.B 26 then
 (bif x.B 27 == y.B 27 then
 (bif x.B 28 == y.B 28 then
 (bif x.B 29 == y.B 29 then
 (bif (bif x.I 30 == y.I 30 then
 (bif x.I 31 == y.I 31 then true else false) else false) then
 (bif x.I 32 == y.I 32 then true else false) else false) else false) else false) else false) else false) else false) else false) else false) else false) then
 (bif x.I 33 == y.I 33 then
 (bif x.I 34 == y.I 34 then
 (bif (bif x.I 37 == y.I 37 then
 (bif x.S 38 == y.S 38 then
 (bif x.S 39 == y.S 39 then true else false) else false) else false) then
 (bif (x.S 40).toList == (y.S 40).toList then ((x.S 41).toList == (y.S 41).toList) else false) else false) else false) else false) else false) else false) else false) else false) else false) else false) else false) else false)
theorem cA {b v w : Bool} {x : Option Unit} (hw : w = (bif b then v else false)) (h : w = v → x = some ()) : (bif b then x else isD (bv w) (bv false)) = some () := by
 cases b
 · exact isD_of (by rw [hw]; rfl)
 · exact h hw
theorem Tm.pos_g {x : Tm} (h : x.pos) : rowsOk x.gR x.gn := ⟨h.1.1, fun i hi => (h.1.2 i hi).1⟩
theorem Tm.pos_o {x : Tm} (h : x.pos) : rowsOk x.oR x.on := ⟨h.2.1.1, fun i hi => (h.2.1.2 i hi).1⟩
theorem Tm.pos_b {x : Tm} (h : x.pos) : rowsOk x.bR x.bn := ⟨h.2.2.1.1, fun i hi => (h.2.2.1.2 i hi).1⟩
theorem Tm.pos_t {x : Tm} (h : x.pos) : tabsAre (tabsD x.tb) x.tn := tabsAre_of h.2.2.2.1 h.2.2.2.2
theorem al_true (x y x' y' : Tm) (hx : x'.pos) (hy : y'.pos) (hxy : y.cells = x.cells → y' = x') : bodyD Tryz.prog (envZ (alL (fun l => l = x.cells) (fun l => l = y.cells) x' y' rowsHere tabsAre rowsEq tabsEq) noLp 0) Tryz.f9 [.agg x.cells, .agg y.cells] [] (fun d _ => isD (bv (alF x' y')) d) = some () := by
 refine (al_tree (fun l => l = x.cells) (fun l => l = y.cells) x' y' rowsHere tabsAre rowsEq tabsEq x y _).trans ?_
 obtain ⟨w, hw⟩ : ∃ w, w = alF x' y' := ⟨_, rfl⟩
 rw [← hw]
 unfold alF at hw
 have fin : ∀ {v : Bool}, w = v → isD (bv w) (DV.v (Value.bool v)) = some () := fun h => isD_of (by rw [h])
 refine hT rfl ?_
 by_cases h : y.cells = x.cells
 · obtain rfl := hxy h
   refine hT h ?_
   exact hT ⟨here_of (Tm.pos_g hx), here_of (Tm.pos_g hx)⟩ (cA hw fun hw => hT ⟨here_of (Tm.pos_o hx), here_of (Tm.pos_o hx)⟩ (cA hw fun hw => hT ⟨here_of (Tm.pos_b hx), here_of (Tm.pos_b hx)⟩ (cA hw fun hw => hT ⟨(Tm.pos_t hx), (Tm.pos_t hx)⟩
     (cA hw fun hw => cA hw fun hw => cA hw fun hw => cA hw fun hw => cA hw fun hw => cA hw fun hw => cA hw fun hw => cA hw fun hw => cA hw fun hw => fin hw))))
 · refine hF h (hT rfl ?_)
   exact hT ⟨here_of (Tm.pos_g hx), here_of (Tm.pos_g hy)⟩ (cA hw fun hw => hT ⟨here_of (Tm.pos_o hx), here_of (Tm.pos_o hy)⟩ (cA hw fun hw => hT ⟨here_of (Tm.pos_b hx), here_of (Tm.pos_b hy)⟩ (cA hw fun hw => hT ⟨(Tm.pos_t hx), (Tm.pos_t hy)⟩
     (cA hw fun hw => cA hw fun hw => cA hw fun hw => cA hw fun hw => cA hw fun hw => cA hw fun hw => cA hw fun hw => cA hw fun hw => cA hw fun hw => fin hw))))
noncomputable def alC (Q : List DV → Prop) (A : List DV → List DV → Bool) : ConF := fun args k => match args with
 | [.agg l, .agg m] => bif holds (Q l ∧ Q m) then k (fun _ => (bv (A l m), [])) else none
 | _ => none
/-- Whether two terminals are alike. -/
def alikeL (l m : List DV) : Bool := alF (mskL l) (mskL m)
theorem msk_pos {x : Tm} (h : x.pos) : x.msk.pos := by
 obtain ⟨h1, h2, h3, h4, h5⟩ := h
 have sz : ∀ {r : Row}, r.sized ∧ 0 < r.n → r.msk.sized ∧ 0 < r.msk.n := fun {r} h => ⟨⟨h.1.1, fun i hi => by
   show (if i < r.n then mkT r i else r.tx i).size ≤ 9000000
   split
   · unfold mkT
     cases shown (r.fl i) <;> cases (r.wd i == 1) <;> cases (r.wd i == 2) <;> first | exact h.1.2 i hi | exact (by decide : starT.size ≤ 9000000) | exact (by decide : wideT.size ≤ 9000000)
   · exact h.1.2 i hi⟩, h.2⟩
 exact ⟨⟨h1.1, fun i hi => sz (h1.2 i hi)⟩, ⟨h2.1, fun i hi => sz (h2.2 i hi)⟩, ⟨h3.1, fun i hi => sz (h3.2 i hi)⟩, h4, h5⟩
theorem alC_ok {st : AE.Stat} (hx : ∀ f, exA f = false → ∀ a σ, st.ext f a σ = none) : ConOkZ true Tryz.prog st 9 (alC tmHere alikeL) := fun args k hk => by
 unfold alC at hk
 split at hk <;> first | (cases hk; done) | skip
 rename_i l m
 obtain ⟨hb, hk⟩ := bif_none hk
 obtain ⟨⟨l1, l2⟩, m1, m2⟩ := holds_eq.1 hb
 refine con_flatZ (F := fun a k' => bif holds (a = [.agg l, .agg m]) then k' (fun _ => (bv (alikeL l m), [])) else none) (mg := []) (l := alL (fun z => z = (tmOf l).cells) (fun z => z = (tmOf m).cells) (mskL l) (mskL m) rowsHere tabsAre rowsEq tabsEq) (lp := noLp) (n := 0) (glOk st) (fun x h => ?_) Tryz.func9 (by kernel_rfl) (by kernel_rfl) (hx 9 rfl) (fun _ _ _ h => nomatch h) (fun args k hk => ?_) _ k (hT rfl hk)
 · simp only [alL, List.mem_cons, List.not_mem_nil, or_false] at h
   rcases h with rfl | rfl | rfl | rfl
   · refine con_le (maC_ok hx) fun args k hk => ?_
     have hk : maT (fun z => z = (tmOf l).cells) (fun z => z = (tmOf m).cells) (mskL l) (mskL m) args k = some () := hk
     unfold maT at hk
     split at hk <;> first | (cases hk; done) | skip
     rename_i z _
     rcases bif_some hk with ⟨e, hk⟩ | ⟨_, hk⟩
     · have e : z = (tmOf l).cells := holds_eq.1 e
       rw [← l1] at e
       subst e
       exact hT ⟨l1, l2⟩ hk
     · obtain ⟨e, hk⟩ := bif_none hk
       have e : z = (tmOf m).cells := holds_eq.1 e
       rw [← m1] at e
       subst e
       exact hT ⟨m1, m2⟩ hk
   · exact (sgC_ok hx).z
   · exact (srC_ok hx).z
   · exact (ebC_ok hx).z
 · obtain ⟨e, hk2⟩ := bif_none hk
   obtain rfl := holds_eq.1 e
   refine ⟨[.agg (tmOf l).cells, .agg (tmOf m).cells], _, .cons (Cv.of (by rw [← l1])) (.cons (Cv.of (by rw [← m1])) .nil), v_clo _, hk2, al_true (tmOf l) (tmOf m) (mskL l) (mskL m) (msk_pos l2) (msk_pos m2) fun h => ?_⟩
   rw [← l1, ← m1] at h
   rw [h]
end Go.Proofs.YtfdldnomelnbgaaGreatDoor
