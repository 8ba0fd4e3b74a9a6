/-
  The contract of the laws' 'fine', for one terminal.
  Conditions: none beyond those of the contracts.

  The contracts of charwidth's Mark and Width.
  Conditions: none beyond those of the contracts.
-/
import Derived.Test.YtabchbchopgnfaaGreatDoorJPr2
import Derived.Test.YtabchbchopgnfaaGreatDoorDeNd
namespace Go.Proofs.YtabchbchopgnfaaGreatDoor
open Go Go.AE Go.DE Go.RowKit

noncomputable def fnI : LInv Unit where
  m := 1
  n := 54
  ps := [17, 18]
  sd _ := [iv 0, iv 0]
  sh _ := [none]
  meas _ := 0
  e _ := .exit 0
  qs := []
  od _ := []
  oh _ := [none]
  guess _ _ := some ()
  cps _ k := k (.exit 0) [] [none]
theorem fn_loop (K : Ex → Nat → List DV → List DV → DHeap → Option Unit) : execD Tryz.prog (env [] noLp 0) (loopAt Tryz.f4 58) 500 (temps 54 [17, 18] [iv 0, iv 0]) [none] (fun e τ σ => K e τ.length (pick [17, 18] τ) (pick [] τ) σ) =
    K (Ex.exit (0 : Nat)) (54 : Nat) [DV.v (Value.int IntKind.i64 (0 : Int)), DV.v (Value.int IntKind.i64 (0 : Int))] [] [none] := by
  kernel_rfl
theorem fn_ls {st : AE.Stat} : LoopS Tryz.prog st gl0 (.loop (loopAt Tryz.f4 58)) fnI.g := by
  refine fnI.ok (E := env [] noLp 0) (p := 500) (tblD_env (l := []) fun _ h => nomatch h) (glOk st).1 (fun _ _ _ h => nomatch h) (fun i k h => h) fun i hi => ?_
  refine (fn_loop _).trans ?_
  exact LInv.ask_of ⟨rfl, rfl, [], wkN .nil⟩
noncomputable abbrev fnL (x : Tm) (g p : Bool) : List (FuncId × ConF) := [(9, tmC x g), (10, tmC x p)]
theorem fn_tree (x : Tm) (g p : Bool) (k : DV → Option Unit) : bodyD Tryz.prog (env (fnL x g p) (lpOf [(58, fnI.g)]) 0) Tryz.f4 [.agg x.cells, .v (.slice none 0 0)] [] (fun d _ => k d) =
    bif holds ([DV.v (Value.int IntKind.i64 (Tm.I x (0 : Nat))), DV.v (Value.int IntKind.i64 (Tm.I x (1 : Nat))), DV.sl false (rowsD (Tm.gT x) (Tm.gR x)) (1 : Nat) (Tm.gn x), DV.v (Value.int IntKind.i64 (Tm.I x (3 : Nat))), DV.v (Value.int IntKind.i64 (Tm.I x (4 : Nat))), DV.sl false (rowsD (Tm.oT x) (Tm.oR x)) (1 : Nat) (Tm.on x), DV.v (Value.int IntKind.i64 (Tm.I x (6 : Nat))), DV.v (Value.int IntKind.i64 (Tm.I x (7 : Nat))), DV.v (Value.bool (Tm.B x (8 : Nat))), DV.v (Value.int IntKind.i64 (Tm.I x (9 : Nat))), DV.v (Value.int IntKind.i64 (Tm.I x (10 : Nat))), DV.v (Value.bool (Tm.B x (11 : Nat))), DV.v (Value.int IntKind.i64 (Tm.I x (12 : Nat))), DV.v (Value.int IntKind.i64 (Tm.I x (13 : Nat))), DV.v (Value.int IntKind.i64 (Tm.I x (14 : Nat))), DV.v (Value.bool (Tm.B x (15 : Nat))), DV.v (Value.int IntKind.u8 (Tm.I x (16 : Nat))), DV.v (Value.int IntKind.u8 (Tm.I x (17 : Nat))), DV.v (Value.int IntKind.i64 (Tm.I x (18 : Nat))), DV.v (Value.int IntKind.i64 (Tm.I x (19 : Nat))), DV.v (Value.int IntKind.i64 (Tm.I x (20 : Nat))), DV.v (Value.int IntKind.i64 (Tm.I x (21 : Nat))), DV.v (Value.bool (Tm.B x (22 : Nat))), DV.v (Value.bool (Tm.B x (23 : Nat))), DV.v (Value.bool (Tm.B x (24 : Nat))), DV.v (Value.bool (Tm.B x (25 : Nat))), DV.v (Value.bool (Tm.B x (26 : Nat))), DV.v (Value.bool (Tm.B x (27 : Nat))), DV.v (Value.bool (Tm.B x (28 : Nat))), DV.v (Value.bool (Tm.B x (29 : Nat))), DV.v (Value.int IntKind.u8 (Tm.I x (30 : Nat))), DV.v (Value.int IntKind.u8 (Tm.I x (31 : Nat))), DV.v (Value.int IntKind.i64 (Tm.I x (32 : Nat))), DV.v (Value.int IntKind.i64 (Tm.I x (33 : Nat))), DV.v (Value.int IntKind.i64 (Tm.I x (34 : Nat))), DV.sl false (tabsD (Tm.tb x)) (1 : Nat) (Tm.tn x), DV.sl false (rowsD (Tm.bT x) (Tm.bR x)) (1 : Nat) (Tm.bn x), DV.v (Value.int IntKind.i64 (Tm.I x (37 : Nat))), DV.v (Value.string (Tm.S x (38 : Nat))), DV.v (Value.string (Tm.S x (39 : Nat))), DV.v (Value.string (Tm.S x (40 : Nat))), DV.v (Value.string (Tm.S x (41 : Nat)))] = [DV.v (Value.int IntKind.i64 (Tm.I x (0 : Nat))), DV.v (Value.int IntKind.i64 (Tm.I x (1 : Nat))), DV.sl false (fun a a_1 => DV.sl (Tm.gT x a) (Row.cell (Tm.gR x a)) (5 : Nat) (Row.n (Tm.gR x a))) (1 : Nat) (Tm.gn x), DV.v (Value.int IntKind.i64 (Tm.I x (3 : Nat))), DV.v (Value.int IntKind.i64 (Tm.I x (4 : Nat))), DV.sl false (fun a a_1 => DV.sl (Tm.oT x a) (Row.cell (Tm.oR x a)) (5 : Nat) (Row.n (Tm.oR x a))) (1 : Nat) (Tm.on x), DV.v (Value.int IntKind.i64 (Tm.I x (6 : Nat))), DV.v (Value.int IntKind.i64 (Tm.I x (7 : Nat))), DV.v (Value.bool (Tm.B x (8 : Nat))), DV.v (Value.int IntKind.i64 (Tm.I x (9 : Nat))), DV.v (Value.int IntKind.i64 (Tm.I x (10 : Nat))), DV.v (Value.bool (Tm.B x (11 : Nat))), DV.v (Value.int IntKind.i64 (Tm.I x (12 : Nat))), DV.v (Value.int IntKind.i64 (Tm.I x (13 : Nat))), DV.v (Value.int IntKind.i64 (Tm.I x (14 : Nat))), DV.v (Value.bool (Tm.B x (15 : Nat))), DV.v (Value.int IntKind.u8 (Tm.I x (16 : Nat))), DV.v (Value.int IntKind.u8 (Tm.I x (17 : Nat))), DV.v (Value.int IntKind.i64 (Tm.I x (18 : Nat))), DV.v (Value.int IntKind.i64 (Tm.I x (19 : Nat))), DV.v (Value.int IntKind.i64 (Tm.I x (20 : Nat))), DV.v (Value.int IntKind.i64 (Tm.I x (21 : Nat))), DV.v (Value.bool (Tm.B x (22 : Nat))), DV.v (Value.bool (Tm.B x (23 : Nat))), DV.v (Value.bool (Tm.B x (24 : Nat))), DV.v (Value.bool (Tm.B x (25 : Nat))), DV.v (Value.bool (Tm.B x (26 : Nat))), DV.v (Value.bool (Tm.B x (27 : Nat))), DV.v (Value.bool (Tm.B x (28 : Nat))), DV.v (Value.bool (Tm.B x (29 : Nat))), DV.v (Value.int IntKind.u8 (Tm.I x (30 : Nat))), DV.v (Value.int IntKind.u8 (Tm.I x (31 : Nat))), DV.v (Value.int IntKind.i64 (Tm.I x (32 : Nat))), DV.v (Value.int IntKind.i64 (Tm.I x (33 : Nat))), DV.v (Value.int IntKind.i64 (Tm.I x (34 : Nat))), DV.sl false (fun a a_1 => DV.v (Value.bool (Tm.tb x a))) (1 : Nat) (Tm.tn x), DV.sl false (fun a a_1 => DV.sl (Tm.bT x a) (Row.cell (Tm.bR x a)) (5 : Nat) (Row.n (Tm.bR x a))) (1 : Nat) (Tm.bn x), DV.v (Value.int IntKind.i64 (Tm.I x (37 : Nat))), DV.v (Value.string (Tm.S x (38 : Nat))), DV.v (Value.string (Tm.S x (39 : Nat))), DV.v (Value.string (Tm.S x (40 : Nat))), DV.v (Value.string (Tm.S x (41 : Nat)))])
    then bif g then k (DV.v (Value.bool false)) else bif holds ([DV.v (Value.int IntKind.i64 (Tm.I x (0 : Nat))), DV.v (Value.int IntKind.i64 (Tm.I x (1 : Nat))), DV.sl false (rowsD (Tm.gT x) (Tm.gR x)) (1 : Nat) (Tm.gn x), DV.v (Value.int IntKind.i64 (Tm.I x (3 : Nat))), DV.v (Value.int IntKind.i64 (Tm.I x (4 : Nat))), DV.sl false (rowsD (Tm.oT x) (Tm.oR x)) (1 : Nat) (Tm.on x), DV.v (Value.int IntKind.i64 (Tm.I x (6 : Nat))), DV.v (Value.int IntKind.i64 (Tm.I x (7 : Nat))), DV.v (Value.bool (Tm.B x (8 : Nat))), DV.v (Value.int IntKind.i64 (Tm.I x (9 : Nat))), DV.v (Value.int IntKind.i64 (Tm.I x (10 : Nat))), DV.v (Value.bool (Tm.B x (11 : Nat))), DV.v (Value.int IntKind.i64 (Tm.I x (12 : Nat))), DV.v (Value.int IntKind.i64 (Tm.I x (13 : Nat))), DV.v (Value.int IntKind.i64 (Tm.I x (14 : Nat))), DV.v (Value.bool (Tm.B x (15 : Nat))), DV.v (Value.int IntKind.u8 (Tm.I x (16 : Nat))), DV.v (Value.int IntKind.u8 (Tm.I x (17 : Nat))), DV.v (Value.int IntKind.i64 (Tm.I x (18 : Nat))), DV.v (Value.int IntKind.i64 (Tm.I x (19 : Nat))), DV.v (Value.int IntKind.i64 (Tm.I x (20 : Nat))), DV.v (Value.int IntKind.i64 (Tm.I x (21 : Nat))), DV.v (Value.bool (Tm.B x (22 : Nat))), DV.v (Value.bool (Tm.B x (23 : Nat))), DV.v (Value.bool (Tm.B x (24 : Nat))), DV.v (Value.bool (Tm.B x (25 : Nat))), DV.v (Value.bool (Tm.B x (26 : Nat))), DV.v (Value.bool (Tm.B x (27 : Nat))), DV.v (Value.bool (Tm.B x (28 : Nat))), DV.v (Value.bool (Tm.B x (29 : Nat))), DV.v (Value.int IntKind.u8 (Tm.I x (30 : Nat))), DV.v (Value.int IntKind.u8 (Tm.I x (31 : Nat))), DV.v (Value.int IntKind.i64 (Tm.I x (32 : Nat))), DV.v (Value.int IntKind.i64 (Tm.I x (33 : Nat))), DV.v (Value.int IntKind.i64 (Tm.I x (34 : Nat))), DV.sl false (tabsD (Tm.tb x)) (1 : Nat) (Tm.tn x), DV.sl false (rowsD (Tm.bT x) (Tm.bR x)) (1 : Nat) (Tm.bn x), DV.v (Value.int IntKind.i64 (Tm.I x (37 : Nat))), DV.v (Value.string (Tm.S x (38 : Nat))), DV.v (Value.string (Tm.S x (39 : Nat))), DV.v (Value.string (Tm.S x (40 : Nat))), DV.v (Value.string (Tm.S x (41 : Nat)))] = [DV.v (Value.int IntKind.i64 (Tm.I x (0 : Nat))), DV.v (Value.int IntKind.i64 (Tm.I x (1 : Nat))), DV.sl false (fun a a_1 => DV.sl (Tm.gT x a) (Row.cell (Tm.gR x a)) (5 : Nat) (Row.n (Tm.gR x a))) (1 : Nat) (Tm.gn x), DV.v (Value.int IntKind.i64 (Tm.I x (3 : Nat))), DV.v (Value.int IntKind.i64 (Tm.I x (4 : Nat))), DV.sl false (fun a a_1 => DV.sl (Tm.oT x a) (Row.cell (Tm.oR x a)) (5 : Nat) (Row.n (Tm.oR x a))) (1 : Nat) (Tm.on x), DV.v (Value.int IntKind.i64 (Tm.I x (6 : Nat))), DV.v (Value.int IntKind.i64 (Tm.I x (7 : Nat))), DV.v (Value.bool (Tm.B x (8 : Nat))), DV.v (Value.int IntKind.i64 (Tm.I x (9 : Nat))), DV.v (Value.int IntKind.i64 (Tm.I x (10 : Nat))), DV.v (Value.bool (Tm.B x (11 : Nat))), DV.v (Value.int IntKind.i64 (Tm.I x (12 : Nat))), DV.v (Value.int IntKind.i64 (Tm.I x (13 : Nat))), DV.v (Value.int IntKind.i64 (Tm.I x (14 : Nat))), DV.v (Value.bool (Tm.B x (15 : Nat))), DV.v (Value.int IntKind.u8 (Tm.I x (16 : Nat))), DV.v (Value.int IntKind.u8 (Tm.I x (17 : Nat))), DV.v (Value.int IntKind.i64 (Tm.I x (18 : Nat))), DV.v (Value.int IntKind.i64 (Tm.I x (19 : Nat))), DV.v (Value.int IntKind.i64 (Tm.I x (20 : Nat))), DV.v (Value.int IntKind.i64 (Tm.I x (21 : Nat))), DV.v (Value.bool (Tm.B x (22 : Nat))), DV.v (Value.bool (Tm.B x (23 : Nat))), DV.v (Value.bool (Tm.B x (24 : Nat))), DV.v (Value.bool (Tm.B x (25 : Nat))), DV.v (Value.bool (Tm.B x (26 : Nat))), DV.v (Value.bool (Tm.B x (27 : Nat))), DV.v (Value.bool (Tm.B x (28 : Nat))), DV.v (Value.bool (Tm.B x (29 : Nat))), DV.v (Value.int IntKind.u8 (Tm.I x (30 : Nat))), DV.v (Value.int IntKind.u8 (Tm.I x (31 : Nat))), DV.v (Value.int IntKind.i64 (Tm.I x (32 : Nat))), DV.v (Value.int IntKind.i64 (Tm.I x (33 : Nat))), DV.v (Value.int IntKind.i64 (Tm.I x (34 : Nat))), DV.sl false (fun a a_1 => DV.v (Value.bool (Tm.tb x a))) (1 : Nat) (Tm.tn x), DV.sl false (fun a a_1 => DV.sl (Tm.bT x a) (Row.cell (Tm.bR x a)) (5 : Nat) (Row.n (Tm.bR x a))) (1 : Nat) (Tm.bn x), DV.v (Value.int IntKind.i64 (Tm.I x (37 : Nat))), DV.v (Value.string (Tm.S x (38 : Nat))), DV.v (Value.string (Tm.S x (39 : Nat))), DV.v (Value.string (Tm.S x (40 : Nat))), DV.v (Value.string (Tm.S x (41 : Nat)))])
    then bif !p then k (DV.v (Value.bool false)) else bif holds (True ∧ ∃ ids, WkP (1 : Nat) ids [DV.v (Value.int IntKind.i64 (0 : Int)), DV.v (Value.int IntKind.i64 (0 : Int))] [some { k := (42 : Nat), c := DC.lst [[DV.v (Value.int IntKind.i64 (Tm.I x (0 : Nat))), DV.v (Value.int IntKind.i64 (Tm.I x (1 : Nat))), DV.sl false (fun a a_1 => DV.sl (Tm.gT x a) (Row.cell (Tm.gR x a)) (5 : Nat) (Row.n (Tm.gR x a))) (1 : Nat) (Tm.gn x), DV.v (Value.int IntKind.i64 (Tm.I x (3 : Nat))), DV.v (Value.int IntKind.i64 (Tm.I x (4 : Nat))), DV.sl false (fun a a_1 => DV.sl (Tm.oT x a) (Row.cell (Tm.oR x a)) (5 : Nat) (Row.n (Tm.oR x a))) (1 : Nat) (Tm.on x), DV.v (Value.int IntKind.i64 (Tm.I x (6 : Nat))), DV.v (Value.int IntKind.i64 (Tm.I x (7 : Nat))), DV.v (Value.bool (Tm.B x (8 : Nat))), DV.v (Value.int IntKind.i64 (Tm.I x (9 : Nat))), DV.v (Value.int IntKind.i64 (Tm.I x (10 : Nat))), DV.v (Value.bool (Tm.B x (11 : Nat))), DV.v (Value.int IntKind.i64 (Tm.I x (12 : Nat))), DV.v (Value.int IntKind.i64 (Tm.I x (13 : Nat))), DV.v (Value.int IntKind.i64 (Tm.I x (14 : Nat))), DV.v (Value.bool (Tm.B x (15 : Nat))), DV.v (Value.int IntKind.u8 (Tm.I x (16 : Nat))), DV.v (Value.int IntKind.u8 (Tm.I x (17 : Nat))), DV.v (Value.int IntKind.i64 (Tm.I x (18 : Nat))), DV.v (Value.int IntKind.i64 (Tm.I x (19 : Nat))), DV.v (Value.int IntKind.i64 (Tm.I x (20 : Nat))), DV.v (Value.int IntKind.i64 (Tm.I x (21 : Nat))), DV.v (Value.bool (Tm.B x (22 : Nat))), DV.v (Value.bool (Tm.B x (23 : Nat))), DV.v (Value.bool (Tm.B x (24 : Nat))), DV.v (Value.bool (Tm.B x (25 : Nat))), DV.v (Value.bool (Tm.B x (26 : Nat))), DV.v (Value.bool (Tm.B x (27 : Nat))), DV.v (Value.bool (Tm.B x (28 : Nat))), DV.v (Value.bool (Tm.B x (29 : Nat))), DV.v (Value.int IntKind.u8 (Tm.I x (30 : Nat))), DV.v (Value.int IntKind.u8 (Tm.I x (31 : Nat))), DV.v (Value.int IntKind.i64 (Tm.I x (32 : Nat))), DV.v (Value.int IntKind.i64 (Tm.I x (33 : Nat))), DV.v (Value.int IntKind.i64 (Tm.I x (34 : Nat))), DV.sl false (fun a a_1 => DV.v (Value.bool (Tm.tb x a))) (1 : Nat) (Tm.tn x), DV.sl false (fun a a_1 => DV.sl (Tm.bT x a) (Row.cell (Tm.bR x a)) (5 : Nat) (Row.n (Tm.bR x a))) (1 : Nat) (Tm.bn x), DV.v (Value.int IntKind.i64 (Tm.I x (37 : Nat))), DV.v (Value.string (Tm.S x (38 : Nat))), DV.v (Value.string (Tm.S x (39 : Nat))), DV.v (Value.string (Tm.S x (40 : Nat))), DV.v (Value.string (Tm.S x (41 : Nat)))]] }] [DV.v (Value.int IntKind.i64 (0 : Int)), DV.v (Value.int IntKind.i64 (0 : Int))] [none])
    then k (DV.v (Value.bool true)) else none else none else none := by
  kernel_rfl
def fineF (x : Tm) : Bool := bif greatF x then false else bif properF x then true else false
theorem fn_true (x : Tm) : bodyD Tryz.prog (env (fnL x (greatF x) (properF x)) (lpOf [(58, fnI.g)]) 0) Tryz.f4 [.agg x.cells, .v (.slice none 0 0)] [] (fun d _ => isD (bv (fineF x)) d) = some () := by
  refine (fn_tree x _ _ _).trans ?_
  unfold fineF
  refine hT rfl (cS (fun h => isD_of ?_) fun h => hT rfl (cS (fun h2 => isD_of ?_) fun h2 => hT ⟨trivial, [], wkN (.cons (.v _) (.cons (.v _) .nil))⟩ (isD_of ?_)))
  · rw [h]; rfl
  · have h2 : properF x = false := by simpa using h2
    rw [h, h2]; rfl
  · have h2 : properF x = true := by simpa using h2
    rw [h, h2]; rfl
noncomputable def fnC (x : Tm) (b : Bool) : ConF := fun args k => match args with
  | [.agg l, .v (.slice none 0 0)] => bif holds (l = x.cells) then k (fun _ => (bv b, [])) else none
  | _ => none
theorem fnC_ok {st : AE.Stat} (hx : ∀ f, f ≠ 5 → f ≠ 22 → ∀ a σ, st.ext f a σ = none) (x : Tm) (hok : x.ok) : ConOk Tryz.prog st 4 (fnC x (fineF x)) := by
  refine con_flat (mg := []) (l := fnL x (greatF x) (properF x)) (lp := lpOf [(58, fnI.g)]) (n := 0) (glOk st) (fun x h => ?_) Tryz.func4 (by kernel_rfl) (by kernel_rfl) (hx 4 (by decide) (by decide)) (lp_one (by kernel_rfl) fn_ls) fun args k hk => ?_
  · simp only [fnL, List.mem_cons, List.not_mem_nil, or_false] at h
    rcases h with rfl | rfl
    · exact gtC_ok hx _ hok
    · exact ppC_ok hx _ hok
  unfold fnC at hk
  split at hk <;> first | (cases hk; done) | skip
  obtain ⟨hb, hk2⟩ := bif_none hk
  obtain rfl := holds_eq.1 hb
  exact ⟨_, _, .self (.self .nil), v_clo _, hk2, fn_true x⟩
end Go.Proofs.YtabchbchopgnfaaGreatDoor

namespace Go.Proofs.YtabchbchopgnfaaGreatDoor
open Go Go.AE Go.DE Go.RowKit

/-- Where a search by halves ends. -/
def bsR (hi : Nat → Int) (v : Int) : Nat → Nat → Nat → Nat
  | 0, l, _ => l
  | m + 1, l, h => if l < h then (if v > hi ((l + h) / 2) then bsR hi v m ((l + h) / 2 + 1) h else bsR hi v m l ((l + h) / 2)) else l
structure BX where
  lo : Nat → Int
  hi : Nat → Int
  n : Nat
  v : Int
  l : Nat
  h : Nat
def bsQ (hi : Nat → Int) (v : Int) (l h : Nat) : Nat := bsR hi v (h - l) l h
def BX.r (x : BX) : Nat := bsQ x.hi x.v x.l x.h
theorem bsR_fuel (hi : Nat → Int) (v : Int) : ∀ (m k l h : Nat), h - l ≤ m → h - l ≤ k → bsR hi v m l h = bsR hi v k l h
  | 0, 0, _, _, _, _ => rfl
  | 0, k + 1, l, h, h1, _ => by
    rw [bsR, bsR, if_neg (by omega)]
  | m + 1, 0, l, h, _, h2 => by
    rw [bsR, bsR, if_neg (by omega)]
  | m + 1, k + 1, l, h, h1, h2 => by
    rw [bsR, bsR]
    by_cases hl : l < h
    · rw [if_pos hl, if_pos hl, bsR_fuel hi v m k _ h (by omega) (by omega), bsR_fuel hi v m k l _ (by omega) (by omega)]
    · rw [if_neg hl, if_neg hl]
theorem BX.step {x : BX} (h : x.l < x.h) : x.r = if x.v > x.hi ((x.l + x.h) / 2) then BX.r { x with l := (x.l + x.h) / 2 + 1 } else BX.r { x with h := (x.l + x.h) / 2 } := by
  unfold BX.r bsQ
  obtain ⟨m, e⟩ : ∃ m, x.h - x.l = m + 1 := ⟨x.h - x.l - 1, by omega⟩
  rw [e, bsR, if_pos h]
  rw [bsR_fuel x.hi x.v m (x.h - ((x.l + x.h) / 2 + 1)) _ x.h (by omega) (by omega), bsR_fuel x.hi x.v m ((x.l + x.h) / 2 - x.l) x.l _ (by omega) (by omega)]
noncomputable def bsI (Q : (Nat → Int) → Int → Nat → Nat → Nat) : LInv BX where
  pre x := x.l ≤ x.h ∧ x.h ≤ x.n ∧ x.n ≤ 1000
  m := 2
  n := 39
  ps := [0, 1, 4, 5]
  sd x := [kv .i32 x.v, .po 1 0 0, iv x.l, iv x.h]
  sh x := [some ⟨2, .tab x.n (rowP x.lo x.hi)⟩, some ⟨1, .lst [[.os 0 0 x.n]]⟩]
  meas x := x.h - x.l
  e _ := .exit 0
  qs := [0, 1, 4]
  od x := [kv .i32 x.v, .po 1 0 0, iv (Q x.hi x.v x.l x.h)]
  oh x := [some ⟨2, .tab x.n (rowP x.lo x.hi)⟩, some ⟨1, .lst [[.os 0 0 x.n]]⟩]
  guess ds σ := match ds, σ with
    | [.v (.int _ v), _, _, .v (.int _ h)], [some ⟨2, .tab n g⟩, _] => some ⟨fun i => numD (g i 0), fun i => numD (g i 1), n, v, 0, h.toNat⟩
    | _, _ => none
  cps x k := k (.exit 0) [kv .i32 x.v, .po 1 0 0, iv (Q x.hi x.v x.l x.h)] [some ⟨2, .tab x.n (rowP x.lo x.hi)⟩, some ⟨1, .lst [[.os 0 0 x.n]]⟩]
theorem bs_loop (lo hi : Nat → Int) (n : Nat) (v : Int) (l h : Nat) (K : Ex → Nat → List DV → List DV → DHeap → Option Unit) : execD Tryz.prog (env [] noLp 0) (loopAt Tryz.f173 28) 500 (temps 39 [0, 1, 4, 5] [kv .i32 v, .po 1 0 0, iv l, iv h]) [some ⟨2, .tab n (rowP lo hi)⟩, some ⟨1, .lst [[.os 0 0 n]]⟩] (fun e τ σ => K e τ.length (pick [0, 1, 4, 5] τ) (pick [0, 1, 4] τ) σ) =
    bif decide ((↑l : Int) < (↑h : Int)) then bif decide ((0 : Int) ≤ IntKind.wrap IntKind.i64 (Int.tdiv (IntKind.wrap IntKind.i64 ((↑l : Int) + (↑h : Int))) (2 : Int))) then bif decide (IntKind.wrap IntKind.i64 (Int.tdiv (IntKind.wrap IntKind.i64 ((↑l : Int) + (↑h : Int))) (2 : Int)) < (↑n : Int))
    then bif decide ((0 : Nat) + Int.toNat (IntKind.wrap IntKind.i64 (Int.tdiv (IntKind.wrap IntKind.i64 ((↑l : Int) + (↑h : Int))) (2 : Int))) + (0 : Nat) < n) then bif decide (v > pr lo hi ((0 : Nat) + Int.toNat (IntKind.wrap IntKind.i64 (Int.tdiv (IntKind.wrap IntKind.i64 ((↑l : Int) + (↑h : Int))) (2 : Int))) + (0 : Nat)) (1 : Nat))
    then K Ex.normal (39 : Nat) [DV.v (Value.int IntKind.i32 v), DV.po (1 : Nat) (0 : Nat) (0 : Nat), DV.v (Value.int IntKind.i64 (IntKind.wrap IntKind.i64 (IntKind.wrap IntKind.i64 (Int.tdiv (IntKind.wrap IntKind.i64 ((↑l : Int) + (↑h : Int))) (2 : Int)) + (1 : Int)))), DV.v (Value.int IntKind.i64 (↑h : Int))] [DV.v (Value.int IntKind.i32 v), DV.po (1 : Nat) (0 : Nat) (0 : Nat), DV.v (Value.int IntKind.i64 (IntKind.wrap IntKind.i64 (IntKind.wrap IntKind.i64 (Int.tdiv (IntKind.wrap IntKind.i64 ((↑l : Int) + (↑h : Int))) (2 : Int)) + (1 : Int))))] [some { k := (2 : Nat), c := DC.tab n fun a a_1 => DV.v (Value.int IntKind.i32 (pr lo hi a a_1)) }, some { k := (1 : Nat), c := DC.lst [[DV.os (0 : Nat) (0 : Nat) n]] }]
    else K Ex.normal (39 : Nat) [DV.v (Value.int IntKind.i32 v), DV.po (1 : Nat) (0 : Nat) (0 : Nat), DV.v (Value.int IntKind.i64 (↑l : Int)), DV.v (Value.int IntKind.i64 (IntKind.wrap IntKind.i64 (Int.tdiv (IntKind.wrap IntKind.i64 ((↑l : Int) + (↑h : Int))) (2 : Int))))] [DV.v (Value.int IntKind.i32 v), DV.po (1 : Nat) (0 : Nat) (0 : Nat), DV.v (Value.int IntKind.i64 (↑l : Int))] [some { k := (2 : Nat), c := DC.tab n fun a a_1 => DV.v (Value.int IntKind.i32 (pr lo hi a a_1)) }, some { k := (1 : Nat), c := DC.lst [[DV.os (0 : Nat) (0 : Nat) n]] }]
    else none else none else none else K (Ex.exit (0 : Nat)) (39 : Nat) [DV.v (Value.int IntKind.i32 v), DV.po (1 : Nat) (0 : Nat) (0 : Nat), DV.v (Value.int IntKind.i64 (↑l : Int)), DV.v (Value.int IntKind.i64 (↑h : Int))] [DV.v (Value.int IntKind.i32 v), DV.po (1 : Nat) (0 : Nat) (0 : Nat), DV.v (Value.int IntKind.i64 (↑l : Int))] [some { k := (2 : Nat), c := DC.tab n fun a a_1 => DV.v (Value.int IntKind.i32 (pr lo hi a a_1)) }, some { k := (1 : Nat), c := DC.lst [[DV.os (0 : Nat) (0 : Nat) n]] }] := by
  kernel_rfl
theorem wkT {lo hi : Nat → Int} {n : Nat} {ds ds2 : List DV} (tm : SubL (ren 2 []) ds2 ds) : WkP 2 [] ds [some ⟨2, .tab n (rowP lo hi)⟩, some ⟨1, .lst [[.os 0 0 n]]⟩] ds2 [some ⟨2, .tab n (rowP lo hi)⟩, some ⟨1, .lst [[.os 0 0 n]]⟩] :=

  .of (im := [some 0, some 1]) tm rfl ⟨⟨0, _, rfl, rfl, ⟨rfl, Nat.le_refl _, trivial, fun _ _ _ _ => .v _⟩⟩, ⟨1, _, rfl, rfl, ⟨rfl, Nat.le_refl _, trivial, fun i f hi hf => by
    obtain rfl : i = 0 := by
      have : i < 1 := hi
      omega
    obtain rfl : f = 0 := by
      have : f < 1 := hf
      omega
    exact .os rfl⟩⟩, trivial⟩ rfl (by decide)
theorem bs_ls {st : AE.Stat} : LoopS Tryz.prog st gl0 (.loop (loopAt Tryz.f173 28)) (bsI bsQ).g := by
  refine (bsI bsQ).ok (E := env [] noLp 0) (p := 500) (tblD_env (l := []) fun _ h => nomatch h) (glOk st).1 (fun _ _ _ h => nomatch h) (fun x k h => h) fun x hx => ?_
  obtain ⟨lo, hi, n, v, l, h⟩ := x
  obtain ⟨h1, h2, h3⟩ : l ≤ h ∧ h ≤ n ∧ n ≤ 1000 := hx
  refine (bs_loop lo hi n v l h _).trans ?_
  have hW : IntKind.i64.wrap ((l : Int) + (h : Int)) = ((l + h : Nat) : Int) := by rw [W_in (by omega) (by omega)]; omega
  have hD : (((l + h : Nat) : Int)).tdiv 2 = (((l + h) / 2 : Nat) : Int) := rfl
  have hM : IntKind.i64.wrap ((((l + h) / 2 : Nat) : Int)) = (((l + h) / 2 : Nat) : Int) := W_in (by omega) (by omega)
  have hN : IntKind.i64.wrap ((((l + h) / 2 : Nat) : Int) + 1) = (((l + h) / 2 + 1 : Nat) : Int) := by rw [W_in (by omega) (by omega)]; omega
  simp only [hW, hD, hM, hN, Int.toNat_natCast, Nat.add_zero, Nat.zero_add]
  refine dS (fun hlt => ?_) fun hge => ?_
  · have hlt : l < h := by omega
    have hs := BX.step (x := ⟨lo, hi, n, v, l, h⟩) hlt
    refine dT (by omega) (dT (by omega) (dT (by omega) (dS (fun hv => ?_) fun hv => ?_)))
    · rw [if_pos (show v > hi ((l + h) / 2) from hv)] at hs
      refine LInv.ask_of ⟨rfl, ⟨lo, hi, n, v, (l + h) / 2 + 1, h⟩, ⟨rfl, ?_, rfl, ?_⟩, ?_, [], wkT (.cons (.v _) (.cons (.po rfl) (.cons (.v _) (.cons (.v _) .nil))))⟩
      · exact congrArg (fun r : Nat => [kv .i32 v, .po 1 0 0, iv (r : Int)]) hs.symm
      · exact ⟨by show (l + h) / 2 + 1 ≤ h; omega, h2, h3⟩
      · show h - ((l + h) / 2 + 1) < h - l; omega
    · rw [if_neg (show ¬ v > hi ((l + h) / 2) from hv)] at hs
      refine LInv.ask_of ⟨rfl, ⟨lo, hi, n, v, l, (l + h) / 2⟩, ⟨rfl, ?_, rfl, ?_⟩, ?_, [], wkT (.cons (.v _) (.cons (.po rfl) (.cons (.v _) (.cons (.v _) .nil))))⟩
      · exact congrArg (fun r : Nat => [kv .i32 v, .po 1 0 0, iv (r : Int)]) hs.symm
      · exact ⟨by show l ≤ (l + h) / 2; omega, by show (l + h) / 2 ≤ n; omega, h3⟩
      · show (l + h) / 2 - l < h - l; omega
  · have hr : bsQ hi v l h = l := by
      unfold bsQ
      rw [show h - l = 0 by omega, bsR]
    refine LInv.ask_of ⟨rfl, rfl, [], ?_⟩
    show WkP 2 [] _ _ [kv .i32 v, .po 1 0 0, iv ((bsQ hi v l h : Nat) : Int)] _
    rw [hr]
    exact wkT (.cons (.v _) (.cons (.po rfl) (.cons (.v _) .nil)))
noncomputable def bsH (Q : (Nat → Int) → Int → Nat → Nat → Nat) : List InE := [⟨128, Tryz.f128, env [] noLp 0⟩, ⟨173, Tryz.f173, env [] (lpOf [(28, (bsI Q).g)]) 0⟩]
theorem bsH_ok {st : AE.Stat} (hx : ∀ f, f ≠ 5 → f ≠ 22 → ∀ a σ, st.ext f a σ = none) : ∀ e ∈ bsH bsQ, InOk Tryz.prog st e := fun e he => by
  simp only [bsH, List.mem_cons, List.not_mem_nil, or_false] at he
  rcases he with rfl | rfl
  · exact ⟨Tryz.func128, by kernel_rfl, by kernel_rfl, hx 128 (by decide) (by decide), tblD_env (l := []) (fun _ h => nomatch h), glOk st, (fun _ _ _ h => nomatch h)⟩
  · exact ⟨Tryz.func173, by kernel_rfl, by kernel_rfl, hx 173 (by decide) (by decide), tblD_env (l := []) (fun _ h => nomatch h), glOk st, lp_one (by kernel_rfl) bs_ls⟩
theorem mks_tree (K : DV → DHeap → Option Unit) : bodyD Tryz.prog (env [] noLp 0) Tryz.f172 [] [] (fun d σ => K d σ) =
    K (DV.os (0 : Nat) (0 : Nat) (7 : Nat)) [some { k := (2 : Nat), c := DC.lst [[DV.v (Value.int IntKind.i32 (768 : Int)), DV.v (Value.int IntKind.i32 (879 : Int))], [DV.v (Value.int IntKind.i32 (6832 : Int)), DV.v (Value.int IntKind.i32 (6911 : Int))], [DV.v (Value.int IntKind.i32 (7616 : Int)), DV.v (Value.int IntKind.i32 (7679 : Int))], [DV.v (Value.int IntKind.i32 (8203 : Int)), DV.v (Value.int IntKind.i32 (8207 : Int))], [DV.v (Value.int IntKind.i32 (8400 : Int)), DV.v (Value.int IntKind.i32 (8447 : Int))], [DV.v (Value.int IntKind.i32 (65024 : Int)), DV.v (Value.int IntKind.i32 (65039 : Int))], [DV.v (Value.int IntKind.i32 (65056 : Int)), DV.v (Value.int IntKind.i32 (65071 : Int))]] }] := by
  kernel_rfl
theorem wds_tree (K : DV → DHeap → Option Unit) : bodyD Tryz.prog (env [] noLp 0) Tryz.f129 [] [] (fun d σ => K d σ) =
    K (DV.os (0 : Nat) (0 : Nat) (14 : Nat)) [some { k := (2 : Nat), c := DC.lst [[DV.v (Value.int IntKind.i32 (4352 : Int)), DV.v (Value.int IntKind.i32 (4447 : Int))], [DV.v (Value.int IntKind.i32 (11904 : Int)), DV.v (Value.int IntKind.i32 (12350 : Int))], [DV.v (Value.int IntKind.i32 (12353 : Int)), DV.v (Value.int IntKind.i32 (13311 : Int))], [DV.v (Value.int IntKind.i32 (13312 : Int)), DV.v (Value.int IntKind.i32 (19903 : Int))], [DV.v (Value.int IntKind.i32 (19968 : Int)), DV.v (Value.int IntKind.i32 (40959 : Int))], [DV.v (Value.int IntKind.i32 (40960 : Int)), DV.v (Value.int IntKind.i32 (42191 : Int))], [DV.v (Value.int IntKind.i32 (44032 : Int)), DV.v (Value.int IntKind.i32 (55203 : Int))], [DV.v (Value.int IntKind.i32 (63744 : Int)), DV.v (Value.int IntKind.i32 (64255 : Int))], [DV.v (Value.int IntKind.i32 (65072 : Int)), DV.v (Value.int IntKind.i32 (65135 : Int))], [DV.v (Value.int IntKind.i32 (65280 : Int)), DV.v (Value.int IntKind.i32 (65376 : Int))], [DV.v (Value.int IntKind.i32 (65504 : Int)), DV.v (Value.int IntKind.i32 (65510 : Int))], [DV.v (Value.int IntKind.i32 (127744 : Int)), DV.v (Value.int IntKind.i32 (128591 : Int))], [DV.v (Value.int IntKind.i32 (129280 : Int)), DV.v (Value.int IntKind.i32 (129535 : Int))], [DV.v (Value.int IntKind.i32 (131072 : Int)), DV.v (Value.int IntKind.i32 (262141 : Int))]] }] := by
  kernel_rfl
theorem mksC_ok {st : AE.Stat} (hx : ∀ f, f ≠ 5 → f ≠ 22 → ∀ a σ, st.ext f a σ = none) : ConOk Tryz.prog st 172 (tabC mkL) := by
  refine con_of (mg := []) (l := []) (lp := noLp) (n := 0) (glOk st) (fun _ h => nomatch h) Tryz.func172 (by kernel_rfl) (by kernel_rfl) (hx 172 (by decide) (by decide)) (fun _ _ _ h => nomatch h) fun args k hk => ?_
  unfold tabC at hk
  split at hk <;> first | (cases hk; done) | skip
  refine ⟨[], _, .nil, hk, fun s => ⟨tab_low mkL s, (mks_tree _).trans (fin_of ?_)⟩⟩
  refine finQ_own (id := 0) rfl rfl rfl (Nat.le_refl 7) trivial fun i f hi hf => ⟨.v _, ?_⟩
  have hf : f = 0 ∨ f = 1 := by omega
  have hi : i = 0 ∨ i = 1 ∨ i = 2 ∨ i = 3 ∨ i = 4 ∨ i = 5 ∨ i = 6 := by have : i < 7 := hi; omega
  rcases hf with rfl | rfl <;> rcases hi with rfl | rfl | rfl | rfl | rfl | rfl | rfl <;> rfl
theorem wdsC_ok {st : AE.Stat} (hx : ∀ f, f ≠ 5 → f ≠ 22 → ∀ a σ, st.ext f a σ = none) : ConOk Tryz.prog st 129 (tabC wdL) := by
  refine con_of (mg := []) (l := []) (lp := noLp) (n := 0) (glOk st) (fun _ h => nomatch h) Tryz.func129 (by kernel_rfl) (by kernel_rfl) (hx 129 (by decide) (by decide)) (fun _ _ _ h => nomatch h) fun args k hk => ?_
  unfold tabC at hk
  split at hk <;> first | (cases hk; done) | skip
  refine ⟨[], _, .nil, hk, fun s => ⟨tab_low wdL s, (wds_tree _).trans (fin_of ?_)⟩⟩
  refine finQ_own (id := 0) rfl rfl rfl (Nat.le_refl 14) trivial fun i f hi hf => ⟨.v _, ?_⟩
  have hf : f = 0 ∨ f = 1 := by omega
  have hi : i = 0 ∨ i = 1 ∨ i = 2 ∨ i = 3 ∨ i = 4 ∨ i = 5 ∨ i = 6 ∨ i = 7 ∨ i = 8 ∨ i = 9 ∨ i = 10 ∨ i = 11 ∨ i = 12 ∨ i = 13 := by have : i < 14 := hi; omega
  rcases hf with rfl | rfl <;> rcases hi with rfl | rfl | rfl | rfl | rfl | rfl | rfl | rfl | rfl | rfl | rfl | rfl | rfl | rfl <;> rfl
theorem cm_tree (Q : (Nat → Int) → Int → Nat → Nat → Nat) (v : Int) (k : DV → Option Unit) : bodyD Tryz.prog (envH Tryz.prog gl0 (bsH Q) [(172, tabC mkL)] noLp 0) Tryz.f127 [kv .i32 v] [] (fun d _ => k d) =
    bif holds ((Nat.le (0 : Nat) (7 : Nat) ∧ Nat.le (7 : Nat) (7 : Nat) ∧ Nat.le (7 : Nat) (1000 : Nat)) ∧ ∃ ids, WkP (LInv.m (bsI Q)) ids [DV.v (Value.int IntKind.i32 v), DV.po (1 : Nat) (0 : Nat) (0 : Nat), DV.v (Value.int IntKind.i64 (0 : Int)), DV.v (Value.int IntKind.i64 (7 : Int))] [some { k := (2 : Nat), c := DC.tab (7 : Nat) fun a a_1 => DV.v (Value.int IntKind.i32 (pr (tabL mkL) (tabH mkL) a a_1)) }, some { k := (1 : Nat), c := DC.lst [[DV.os (0 : Nat) (0 : Nat) (7 : Nat)]] }] [DV.v (Value.int IntKind.i32 v), DV.po (1 : Nat) (0 : Nat) (0 : Nat), DV.v (Value.int IntKind.i64 (0 : Int)), DV.v (Value.int IntKind.i64 (7 : Int))] [some { k := (2 : Nat), c := DC.tab (7 : Nat) fun a a_1 => DV.v (Value.int IntKind.i32 (pr (fun i => numD (DV.v (Value.int IntKind.i32 (pr (tabL mkL) (tabH mkL) i (0 : Nat))))) (fun i => numD (DV.v (Value.int IntKind.i32 (pr (tabL mkL) (tabH mkL) i (1 : Nat))))) a a_1)) }, some { k := (1 : Nat), c := DC.lst [[DV.os (0 : Nat) (0 : Nat) (7 : Nat)]] }])
    then bif decide ((↑(Q (fun i => numD (DV.v (Value.int IntKind.i32 (pr (tabL mkL) (tabH mkL) i (1 : Nat))))) v (0 : Nat) (7 : Nat)) : Int) < (7 : Int)) then bif decide ((↑(Q (fun i => numD (DV.v (Value.int IntKind.i32 (pr (tabL mkL) (tabH mkL) i (1 : Nat))))) v (0 : Nat) (7 : Nat)) : Int) < (7 : Int))
    then bif decide ((0 : Nat) + Int.toNat (↑(Q (fun i => numD (DV.v (Value.int IntKind.i32 (pr (tabL mkL) (tabH mkL) i (1 : Nat))))) v (0 : Nat) (7 : Nat)) : Int) + (0 : Nat) < (7 : Nat)) then k (DV.v (Value.bool (decide (v ≥ pr (fun i => numD (DV.v (Value.int IntKind.i32 (pr (tabL mkL) (tabH mkL) i (0 : Nat))))) (fun i => numD (DV.v (Value.int IntKind.i32 (pr (tabL mkL) (tabH mkL) i (1 : Nat))))) ((0 : Nat) + Int.toNat (↑(Q (fun i => numD (DV.v (Value.int IntKind.i32 (pr (tabL mkL) (tabH mkL) i (1 : Nat))))) v (0 : Nat) (7 : Nat)) : Int) + (0 : Nat)) (0 : Nat)))))
    else none else none else k (DV.v (Value.bool false)) else none := by
  kernel_rfl
/-- Whether a number lies in one of the ranges of a table, searched by halves. -/
def findF (L : List (Int × Int)) (v : Int) : Bool := bif decide (bsQ (tabH L) v 0 L.length < L.length) then decide (v ≥ tabL L (bsQ (tabH L) v 0 L.length)) else false
theorem cm_true (v : Int) : bodyD Tryz.prog (envH Tryz.prog gl0 (bsH bsQ) [(172, tabC mkL)] noLp 0) Tryz.f127 [kv .i32 v] [] (fun d _ => isD (bv (findF mkL v)) d) = some () := by
  refine (cm_tree bsQ v _).trans (hT ⟨⟨Nat.zero_le _, Nat.le_refl _, by show 7 ≤ 1000; decide⟩, [], wkT (.cons (.v _) (.cons (.po rfl) (.cons (.v _) (.cons (.v _) .nil))))⟩ ?_)
  show (bif decide (((bsQ (tabH mkL) v 0 7 : Nat) : Int) < 7) then _ else _) = some ()
  unfold findF
  refine dS (fun h => ?_) fun h => isD_of ?_
  · have h' : bsQ (tabH mkL) v 0 mkL.length < mkL.length := by
      have h : ((bsQ (tabH mkL) v 0 7 : Nat) : Int) < 7 := h
      show bsQ (tabH mkL) v 0 7 < 7
      omega
    have e : 0 + (((bsQ (tabH mkL) v 0 7 : Nat) : Int)).toNat + 0 = bsQ (tabH mkL) v 0 7 := by omega
    refine dT h (dT ?_ (isD_of ?_))
    · show 0 + (((bsQ (tabH mkL) v 0 7 : Nat) : Int)).toNat + 0 < 7
      rw [e]; exact h'
    · rw [decide_eq_true h', cond_true]
      show DV.v (.bool (decide (v ≥ tabL mkL (0 + (((bsQ (tabH mkL) v 0 7 : Nat) : Int)).toNat + 0)))) = _
      rw [e]; rfl
  · have h' : ¬ bsQ (tabH mkL) v 0 mkL.length < mkL.length := by
      have h : ¬ ((bsQ (tabH mkL) v 0 7 : Nat) : Int) < 7 := h
      show ¬ bsQ (tabH mkL) v 0 7 < 7
      omega
    rw [decide_eq_false h']; rfl
theorem cmC_ok {st : AE.Stat} (hx : ∀ f, f ≠ 5 → f ≠ 22 → ∀ a σ, st.ext f a σ = none) : ConOk Tryz.prog st 127 (markC (findF mkL)) := by
  refine con_flatE (E := envH Tryz.prog gl0 (bsH bsQ) [(172, tabC mkL)] noLp 0) (glOk st) (envH_ok (bsH_ok hx) fun x h => ?_) Tryz.func127 (by kernel_rfl) (by kernel_rfl) (hx 127 (by decide) (by decide)) (fun _ _ _ h => nomatch h) fun args k hk => ?_
  · simp only [List.mem_cons, List.not_mem_nil, or_false] at h
    subst h
    exact mksC_ok hx
  unfold markC at hk
  split at hk <;> first | (cases hk; done) | skip
  rename_i v
  exact ⟨[kv .i32 v], _, .self .nil, v_clo _, hk, cm_true v⟩
theorem cww_tree (Q : (Nat → Int) → Int → Nat → Nat → Nat) (M : Int → Bool) (v : Int) (k : DV → Option Unit) : bodyD Tryz.prog (envH Tryz.prog gl0 (bsH Q) [(127, markC M), (129, tabC wdL)] noLp 0) Tryz.f86 [kv .i32 v] [] (fun d _ => k d) =
    bif decide (v < (32 : Int)) then k (DV.v (Value.int IntKind.i64 (-1 : Int))) else bif decide (v ≥ (127 : Int)) then bif decide (v ≤ (159 : Int)) then k (DV.v (Value.int IntKind.i64 (-1 : Int))) else
    bif M v then k (DV.v (Value.int IntKind.i64 (0 : Int))) else bif holds ((Nat.le (0 : Nat) (14 : Nat) ∧ Nat.le (14 : Nat) (14 : Nat) ∧ Nat.le (14 : Nat) (1000 : Nat)) ∧ ∃ ids, WkP (LInv.m (bsI Q)) ids [DV.v (Value.int IntKind.i32 v), DV.po (1 : Nat) (0 : Nat) (0 : Nat), DV.v (Value.int IntKind.i64 (0 : Int)), DV.v (Value.int IntKind.i64 (14 : Int))] [some { k := (2 : Nat), c := DC.tab (14 : Nat) fun a a_1 => DV.v (Value.int IntKind.i32 (pr (tabL wdL) (tabH wdL) a a_1)) }, some { k := (1 : Nat), c := DC.lst [[DV.os (0 : Nat) (0 : Nat) (14 : Nat)]] }] [DV.v (Value.int IntKind.i32 v), DV.po (1 : Nat) (0 : Nat) (0 : Nat), DV.v (Value.int IntKind.i64 (0 : Int)), DV.v (Value.int IntKind.i64 (14 : Int))] [some { k := (2 : Nat), c := DC.tab (14 : Nat) fun a a_1 => DV.v (Value.int IntKind.i32 (pr (fun i => numD (DV.v (Value.int IntKind.i32 (pr (tabL wdL) (tabH wdL) i (0 : Nat))))) (fun i => numD (DV.v (Value.int IntKind.i32 (pr (tabL wdL) (tabH wdL) i (1 : Nat))))) a a_1)) }, some { k := (1 : Nat), c := DC.lst [[DV.os (0 : Nat) (0 : Nat) (14 : Nat)]] }])
    then bif decide ((↑(Q (fun i => numD (DV.v (Value.int IntKind.i32 (pr (tabL wdL) (tabH wdL) i (1 : Nat))))) v (0 : Nat) (14 : Nat)) : Int) < (14 : Int)) then bif decide ((↑(Q (fun i => numD (DV.v (Value.int IntKind.i32 (pr (tabL wdL) (tabH wdL) i (1 : Nat))))) v (0 : Nat) (14 : Nat)) : Int) < (14 : Int))
    then bif decide ((0 : Nat) + Int.toNat (↑(Q (fun i => numD (DV.v (Value.int IntKind.i32 (pr (tabL wdL) (tabH wdL) i (1 : Nat))))) v (0 : Nat) (14 : Nat)) : Int) + (0 : Nat) < (14 : Nat)) then bif decide (v ≥ pr (fun i => numD (DV.v (Value.int IntKind.i32 (pr (tabL wdL) (tabH wdL) i (0 : Nat))))) (fun i => numD (DV.v (Value.int IntKind.i32 (pr (tabL wdL) (tabH wdL) i (1 : Nat))))) ((0 : Nat) + Int.toNat (↑(Q (fun i => numD (DV.v (Value.int IntKind.i32 (pr (tabL wdL) (tabH wdL) i (1 : Nat))))) v (0 : Nat) (14 : Nat)) : Int) + (0 : Nat)) (0 : Nat))
    then k (DV.v (Value.int IntKind.i64 (2 : Int))) else k (DV.v (Value.int IntKind.i64 (1 : Int))) else none else none else k (DV.v (Value.int IntKind.i64 (1 : Int))) else none else bif M v then k (DV.v (Value.int IntKind.i64 (0 : Int)))
    else bif holds ((Nat.le (0 : Nat) (14 : Nat) ∧ Nat.le (14 : Nat) (14 : Nat) ∧ Nat.le (14 : Nat) (1000 : Nat)) ∧ ∃ ids, WkP (LInv.m (bsI Q)) ids [DV.v (Value.int IntKind.i32 v), DV.po (1 : Nat) (0 : Nat) (0 : Nat), DV.v (Value.int IntKind.i64 (0 : Int)), DV.v (Value.int IntKind.i64 (14 : Int))] [some { k := (2 : Nat), c := DC.tab (14 : Nat) fun a a_1 => DV.v (Value.int IntKind.i32 (pr (tabL wdL) (tabH wdL) a a_1)) }, some { k := (1 : Nat), c := DC.lst [[DV.os (0 : Nat) (0 : Nat) (14 : Nat)]] }] [DV.v (Value.int IntKind.i32 v), DV.po (1 : Nat) (0 : Nat) (0 : Nat), DV.v (Value.int IntKind.i64 (0 : Int)), DV.v (Value.int IntKind.i64 (14 : Int))] [some { k := (2 : Nat), c := DC.tab (14 : Nat) fun a a_1 => DV.v (Value.int IntKind.i32 (pr (fun i => numD (DV.v (Value.int IntKind.i32 (pr (tabL wdL) (tabH wdL) i (0 : Nat))))) (fun i => numD (DV.v (Value.int IntKind.i32 (pr (tabL wdL) (tabH wdL) i (1 : Nat))))) a a_1)) }, some { k := (1 : Nat), c := DC.lst [[DV.os (0 : Nat) (0 : Nat) (14 : Nat)]] }])
    then bif decide ((↑(Q (fun i => numD (DV.v (Value.int IntKind.i32 (pr (tabL wdL) (tabH wdL) i (1 : Nat))))) v (0 : Nat) (14 : Nat)) : Int) < (14 : Int)) then bif decide ((↑(Q (fun i => numD (DV.v (Value.int IntKind.i32 (pr (tabL wdL) (tabH wdL) i (1 : Nat))))) v (0 : Nat) (14 : Nat)) : Int) < (14 : Int))
    then bif decide ((0 : Nat) + Int.toNat (↑(Q (fun i => numD (DV.v (Value.int IntKind.i32 (pr (tabL wdL) (tabH wdL) i (1 : Nat))))) v (0 : Nat) (14 : Nat)) : Int) + (0 : Nat) < (14 : Nat)) then bif decide (v ≥ pr (fun i => numD (DV.v (Value.int IntKind.i32 (pr (tabL wdL) (tabH wdL) i (0 : Nat))))) (fun i => numD (DV.v (Value.int IntKind.i32 (pr (tabL wdL) (tabH wdL) i (1 : Nat))))) ((0 : Nat) + Int.toNat (↑(Q (fun i => numD (DV.v (Value.int IntKind.i32 (pr (tabL wdL) (tabH wdL) i (1 : Nat))))) v (0 : Nat) (14 : Nat)) : Int) + (0 : Nat)) (0 : Nat))
    then k (DV.v (Value.int IntKind.i64 (2 : Int))) else k (DV.v (Value.int IntKind.i64 (1 : Int))) else none else none else k (DV.v (Value.int IntKind.i64 (1 : Int))) else none := by
  kernel_rfl
/-- The program's width of a character. -/
def cwF (v : Int) : Int := bif decide (v < 32) then -1 else bif decide (v ≥ 127) && decide (v ≤ 159) then -1 else bif findF mkL v then 0 else bif findF wdL v then 2 else 1
theorem cww_true (v : Int) : bodyD Tryz.prog (envH Tryz.prog gl0 (bsH bsQ) [(127, markC (findF mkL)), (129, tabC wdL)] noLp 0) Tryz.f86 [kv .i32 v] [] (fun d _ => isD (iv (cwF v)) d) = some () := by
  refine (cww_tree bsQ (findF mkL) v _).trans ?_
  refine dS (fun a => isD_of ?_) fun a => dS (fun b => dS (fun c => isD_of ?_) fun c => ?_) fun b => ?_
  · unfold cwF; rw [decide_eq_true a]; rfl
  · unfold cwF; rw [decide_eq_false a, decide_eq_true b, decide_eq_true c]; rfl
  all_goals
    have hw : cwF v = bif findF mkL v then 0 else bif findF wdL v then 2 else 1 := by
      unfold cwF
      rw [decide_eq_false a]
      first | rw [decide_eq_true b, decide_eq_false c]; rfl | rw [decide_eq_false b]; rfl
    rw [hw]
    refine cS (fun h => isD_of ?_) fun h => hT ⟨⟨Nat.zero_le _, Nat.le_refl _, by show 14 ≤ 1000; decide⟩, [], wkT (.cons (.v _) (.cons (.po rfl) (.cons (.v _) (.cons (.v _) .nil))))⟩ ?_
    · rw [h]; rfl
    rw [h, cond_false]
    show (bif decide (((bsQ (tabH wdL) v 0 14 : Nat) : Int) < 14) then _ else _) = some ()
    unfold findF
    refine dS (fun h => ?_) fun h => isD_of ?_
    · have h' : bsQ (tabH wdL) v 0 wdL.length < wdL.length := by
        have h : ((bsQ (tabH wdL) v 0 14 : Nat) : Int) < 14 := h
        show bsQ (tabH wdL) v 0 14 < 14
        omega
      have e : 0 + (((bsQ (tabH wdL) v 0 14 : Nat) : Int)).toNat + 0 = bsQ (tabH wdL) v 0 14 := by omega
      refine dT h (dT ?_ ?_)
      · show 0 + (((bsQ (tabH wdL) v 0 14 : Nat) : Int)).toNat + 0 < 14
        rw [e]; exact h'
      · rw [decide_eq_true h', cond_true]
        show (bif decide (v ≥ tabL wdL (0 + (((bsQ (tabH wdL) v 0 14 : Nat) : Int)).toNat + 0)) then _ else _) = some ()
        rw [e]
        refine dS (fun q => isD_of ?_) fun q => isD_of ?_
        · rw [show decide (v ≥ tabL wdL (bsQ (tabH wdL) v 0 wdL.length)) = true from decide_eq_true q]; rfl
        · rw [show decide (v ≥ tabL wdL (bsQ (tabH wdL) v 0 wdL.length)) = false from decide_eq_false q]; rfl
    · have h' : ¬ bsQ (tabH wdL) v 0 wdL.length < wdL.length := by
        have h : ¬ ((bsQ (tabH wdL) v 0 14 : Nat) : Int) < 14 := h
        show ¬ bsQ (tabH wdL) v 0 14 < 14
        omega
      rw [decide_eq_false h']; rfl
theorem cwwC_ok {st : AE.Stat} (hx : ∀ f, f ≠ 5 → f ≠ 22 → ∀ a σ, st.ext f a σ = none) : ConOk Tryz.prog st 86 (widC cwF) := by
  refine con_flatE (E := envH Tryz.prog gl0 (bsH bsQ) [(127, markC (findF mkL)), (129, tabC wdL)] noLp 0) (glOk st) (envH_ok (bsH_ok hx) fun x h => ?_) Tryz.func86 (by kernel_rfl) (by kernel_rfl) (hx 86 (by decide) (by decide)) (fun _ _ _ h => nomatch h) fun args k hk => ?_
  · simp only [List.mem_cons, List.not_mem_nil, or_false] at h
    rcases h with rfl | rfl
    · exact cmC_ok hx
    · exact wdsC_ok hx
  unfold widC at hk
  split at hk <;> first | (cases hk; done) | skip
  rename_i v
  exact ⟨[kv .i32 v], _, .self .nil, v_clo _, hk, cww_true v⟩
end Go.Proofs.YtabchbchopgnfaaGreatDoor
