/-
 The contracts of the reference's Characters, and of its clusters' Check and Width.
 Conditions: none beyond those of the contracts.

 The contracts of the reference's cluster width and of its check of a row of cells.
 Conditions: none beyond those of the contracts.
-/
import Derived.Test.YtfdldnomelnbgaaGreatDoorJClu
namespace Go.Proofs.YtfdldnomelnbgaaGreatDoor
open Go Go.AE Go.DE Go.RowKit

theorem ch_tree (s : ByteArray) (K : DV → DHeap → Option Unit) : bodyD Tryz.prog (env [(82, decC)] noLp 0) Tryz.f105 [sv s] [] (fun d σ => K d σ) =
  bif decide (0 + ByteArray.size s ≤ 9000000) then K (.os 0 0 (List.length (Prod.fst (decF ({ data := #[] } ++ s))))) [some ⟨1, .tab (List.length (Prod.fst (decF ({ data := #[] } ++ s)))) fun a a_1 => kv .i32 ((lw (Prod.fst (decF ({ data := #[] } ++ s))) a))⟩]
  else none := by
 kernel_rfl
noncomputable def chC : ConF := fun args k => match args with
 | [.v (.string s)] => bif decide (s.size ≤ 9000000) then k (fun b => (.os b 0 (decF s).1.length, [some (lstB .i32 (decF s).1)])) else none
 | _ => none
theorem chC_ok {st : AE.Stat} (hx : ∀ f, exA f = false → ∀ a σ, st.ext f a σ = none) : ConOk Tryz.prog st 105 chC := by
 refine con_of (mg := []) (l := [(82, decC)]) (lp := noLp) (n := 0) (glOk st) (fun x h => ?_) Tryz.func105 (by kernel_rfl) (by kernel_rfl) (hx 105 rfl) (fun _ _ _ h => nomatch h) fun args k hk => ?_
 ·simp only [List.mem_cons, List.not_mem_nil, or_false] at h
  subst h
  exact decC_ok hx
 unfold chC at hk
 split at hk <;> first | (cases hk; done) | skip
 rename_i s
 obtain ⟨hn, hk⟩ := dec_none hk
 refine ⟨[sv s], _, .self .nil, hk, fun b => ⟨lowR_lst (.os _ _ _), (ch_tree s _).trans ?_⟩⟩
 rw [nil_app]
 refine dT (by omega) (fin_of ?_)
 exact finQ_own (id := 0) (blk := lstB .i32 (decF s).1) rfl rfl rfl (Nat.le_refl _) trivial fun i f hi hf => ⟨.v _, rfl⟩
/-- Whether all characters from one on are marks. -/
def marksF (z : Nat → Int) : Nat → Nat → Bool
 | 0, _ => true
 | m + 1, i => bif markF (z i) then marksF z m (i + 1) else false
structure MX where
 z : Nat → Int
 n : Nat
 i : Nat
def MX.r (x : MX) : Bool := marksF x.z (x.n - x.i) x.i
noncomputable def mkI : LInv MX where
 pre x := x.n ≤ 9000000
 m := 1
 n := 40
 ps := [3, 4]
 sd x := [.os 0 0 x.n, iv x.i]
 sh x := [some ⟨1, .tab x.n (rowI .i32 x.z)⟩]
 meas x := x.n - x.i
 e x := match x.r with
  | true => .exit 0
  | false => .ret
 qs := [2, 3]
 od x := match x.r with
  | true => [.any, .os 0 0 x.n]
  | false => [iv 9, .any]
 oh x := [some ⟨1, .tab x.n (rowI .i32 x.z)⟩]
 guess ds σ := match ds, σ with
  | [.os 0 0 n, _], [some ⟨1, .tab _ g⟩] => some ⟨fun i => numD (g i 0), n, 1⟩
  | _, _ => none
 cps x k := bif holds (x.r = true) then k (.exit 0) [.any, .os 0 0 x.n] [some ⟨1, .tab x.n (rowI .i32 x.z)⟩] else k .ret [iv 9, .any] [some ⟨1, .tab x.n (rowI .i32 x.z)⟩]
theorem mk_loop (M : Int → Bool) (z : Nat → Int) (n i : Nat) (K : Ex → Nat → List DV → List DV → DHeap → Option Unit) : execD Tryz.prog (env [(106, markC M)] noLp 0) (loopAt Tryz.f84 250) 500 (temps 40 [3, 4] [.os 0 0 n, iv i]) [some ⟨1, .tab n (rowI .i32 z)⟩] (fun e τ σ => K e τ.length (pick [3, 4] τ) (pick [2, 3] τ) σ) =
  bif decide ((i : Int) < (n : Int)) then bif decide ((i : Int) < (n : Int)) then bif decide (0 + tN i < n) then bif !M (z (0 + tN i)) then K .ret 40 [.os 0 0 n, iv (i : Int)] [iv 9, .os 0 0 n] [some ⟨1, .tab n fun a a_1 => kv .i32 ((z a))⟩]
  else K .normal 40 [.os 0 0 n, iv (IntKind.wrap .i64 ((i : Int) + 1))] [DV.any, .os 0 0 n] [some ⟨1, .tab n fun a a_1 => kv .i32 ((z a))⟩] else none else none else K (.exit 0) 40 [.os 0 0 n, iv (i : Int)] [DV.any, .os 0 0 n] [some ⟨1, .tab n fun a a_1 => kv .i32 ((z a))⟩] := by
 kernel_rfl
theorem wkB {z : Nat → Int} {n : Nat} {ds ds2 : List DV} (tm : SubL (ren 1 []) ds2 ds) : WkP 1 [] ds [some ⟨1, .tab n (rowI .i32 z)⟩] ds2 [some ⟨1, .tab n (rowI .i32 z)⟩] :=

 .of (im := [some 0]) tm rfl ⟨⟨0, _, rfl, rfl, ⟨rfl, Nat.le_refl _, trivial, fun _ _ _ _ => .v _⟩⟩, trivial⟩ rfl (by decide)
theorem mk_ls {st : AE.Stat} (hx : ∀ f, exA f = false → ∀ a σ, st.ext f a σ = none) : LoopS Tryz.prog st gl0 (.loop (loopAt Tryz.f84 250)) mkI.g := by
 refine mkI.ok (E := env [(106, markC markF)] noLp 0) (p := 500) (tblD_env (l := [(106, markC markF)]) (fun x h => ?_)) (glOk st).1 (fun _ _ _ h => nomatch h) (fun x k h => ?_) fun x hx => ?_
 ·simp only [List.mem_cons, List.not_mem_nil, or_false] at h
  subst h
  exact markC_ok hx
 ·simp only [mkI] at h ⊢
  cases hr : x.r with
  | true => rw [hr, holds_eq.2 rfl] at h; exact h
  | false =>
   have hf : holds (false = true) = false := by
    cases hb : holds (false = true) with
    | false => rfl
    | true => exact absurd (holds_eq.1 hb) (by decide)
   rw [hr, hf] at h; exact h
 obtain ⟨z, n, i⟩ := x
 have hn : n ≤ 9000000 := hx
 refine (mk_loop markF z n i _).trans ?_
 simp only [Int.toNat_natCast, Nat.add_zero, Nat.zero_add]
 refine dS (fun hlt => ?_) fun hge => ?_
 ·have hlt : i < n := by omega
  have e : n - i = (n - (i + 1)) + 1 := by omega
  have hW : IntKind.i64.wrap ((i : Int) + 1) = ((i + 1 : Nat) : Int) := by rw [W_in (by omega) (by omega)]; omega
  rw [hW]
  refine dT (by omega) (dT hlt (cS (fun h => ?_) fun h => ?_))
  ·have h : markF (z i) = false := by simpa using h
   have hr : MX.r ⟨z, n, i⟩ = false := by simp only [MX.r, e, marksF, h, cond_false]
   refine LInv.ask_of ⟨rfl, ?_, [], ?_⟩
   ·simp only [mkI, hr]
   ·simp only [mkI, hr]
    exact wkB (.cons (.v _) (.cons (.any _) .nil))
  ·have h : markF (z i) = true := by simpa using h
   have hr : MX.r ⟨z, n, i + 1⟩ = MX.r ⟨z, n, i⟩ := by simp only [MX.r, e, marksF, h, cond_true]
   refine LInv.ask_of ⟨rfl, ⟨z, n, i + 1⟩, ⟨?_, ?_, rfl, hn⟩, ?_, [], ?_⟩
   ·simp only [mkI, hr]
   ·simp only [mkI, hr]
   ·simp only [mkI]; omega
   ·exact wkB (.cons (.os rfl) (.cons (.v _) .nil))
 ·have hr : MX.r ⟨z, n, i⟩ = true := by
   have : n - i = 0 := by omega
   simp only [MX.r, this, marksF]
  refine LInv.ask_of ⟨rfl, ?_, [], ?_⟩
  ·simp only [mkI, hr]
  ·simp only [mkI, hr]
   exact wkB (.cons (.any _) (.cons (.os rfl) .nil))
noncomputable def vaG (V : ByteArray → Bool) : ConF := fun args k => match args with
 | [.v (.string s)] => bif decide (s.size ≤ 9000000) then k (fun _ => (bv (V s), [])) else none
 | _ => none
noncomputable def chG (A : ByteArray → List Int) : ConF := fun args k => match args with
 | [.v (.string s)] => bif decide (s.size ≤ 9000000) then k (fun b => (.os b 0 (A s).length, [some (lstB .i32 (A s))])) else none
 | _ => none
def chF (s : ByteArray) : List Int := (decF s).1
noncomputable abbrev ckL (V : ByteArray → Bool) (A : ByteArray → List Int) (M : Int → Bool) (D : Int → Int) : List (FuncId × ConF) := [(49, vaG V), (105, chG A), (106, markC M), (107, widC D)]
theorem ck_tree (V : ByteArray → Bool) (A : ByteArray → List Int) (M : Int → Bool) (D : Int → Int) (s : ByteArray) (k : DV → Option Unit) : bodyD Tryz.prog (env (ckL V A M D) (lpOf [(250, mkI.g)]) 0) Tryz.f84 [sv s] [] (fun d _ => k d) =
  bif ByteArray.toList s == ByteArray.toList { data := #[] } then k (iv 3) else bif decide (ByteArray.size s ≤ 9000000) then bif !V s then k (iv 3) else bif decide (ByteArray.size s ≤ 9000000) then bif decide (0 < (↑(List.length (A s)) : Int))
  then bif decide (0 + 0 / DBlk.k (lstB IntKind.i32 (A s)) < List.length (A s)) then bif M (lw (A s) (0 + 0 / DBlk.k (lstB IntKind.i32 (A s)))) then k (iv 9) else bif decide (0 < (↑(List.length (A s)) : Int))
  then bif decide (0 + 0 / DBlk.k (lstB IntKind.i32 (A s)) < List.length (A s)) then bif decide (D (lw (A s) (0 + 0 / DBlk.k (lstB IntKind.i32 (A s)))) < 1) then k (iv 9) else bif holds (Nat.le (List.length (A s)) 9000000 ∧ ∃ ids, WkP 1 ids [.os 0 0 (List.length (A s)), iv 1] [some ⟨1, .tab (List.length (A s)) fun a a_1 => kv .i32 ((lw (A s) a))⟩] [.os 0 0 (List.length (A s)), iv 1] [some ⟨1, .tab (List.length (A s)) fun a a_1 => kv .i32 (((fun i => numD (kv .i32 ((lw (A s) i)))) a))⟩])
  then bif holds (MX.r { z := fun i => numD (kv .i32 ((lw (A s) i))), n := List.length (A s), i := 1 } = true) then bif decide ((↑(List.length (A s)) : Int) > 4) then k (iv 5) else k (iv 0) else k (iv 9)
  else none else none else none else none else none else none else none := by
 kernel_rfl
/-- The reference's check of a cluster. -/
def check3 (s : ByteArray) : Int :=
 bif ByteArray.toList s == ByteArray.toList ⟨#[]⟩ then 3 else bif validF s then
  bif markF (lw (decF s).1 0) then 9 else bif decide (widF (lw (decF s).1 0) < 1) then 9 else
   bif marksF (lw (decF s).1) ((decF s).1.length - 1) 1 then (bif decide (((decF s).1.length : Int) > 4) then 5 else 0) else 9
 else 3
theorem ck_true (s : ByteArray) (hn : s.size ≤ 9000000) : bodyD Tryz.prog (env (ckL validF chF markF widF) (lpOf [(250, mkI.g)]) 0) Tryz.f84 [sv s] [] (fun d _ => isD (iv (check3 s)) d) = some () := by
 refine (ck_tree validF chF markF widF s _).trans ?_
 have hlen : (chF s).length ≤ s.size := decF_len hn
 refine cS (fun h => isD_of ?_) fun h => dT hn (cS (fun hv => isD_of ?_) fun hv => ?_)
 ·unfold check3; rw [h]; rfl
 ·have hv : validF s = false := by simpa using hv
  unfold check3; rw [h, hv]; rfl
 have hv : validF s = true := by simpa using hv
 have hne : 0 < (chF s).length := List.length_pos_iff.2 (valid_ne hv fun e => by rw [e, beq_self_eq_true] at h; cases h)
 have z0 : 0 + 0 / (lstB IntKind.i32 (chF s)).k = 0 := by simp [lstB]
 simp only [z0]
 have hc : check3 s = bif markF (lw (chF s) 0) then 9 else bif decide (widF (lw (chF s) 0) < 1) then 9 else
   bif marksF (lw (chF s)) ((chF s).length - 1) 1 then (bif decide (((chF s).length : Int) > 4) then 5 else 0) else 9 := by unfold check3; rw [h, hv]; rfl
 rw [hc]
 refine dT hn (dT (by omega) (dT hne (cS (fun h1 => isD_of ?_) fun h1 => dT (by omega) (dT hne (dS (fun h2 => isD_of ?_) fun h2 => hT ⟨?_, [], wkB (.cons (.os rfl) (.cons (.v _) .nil))⟩ ?_)))))
 ·rw [h1]; rfl
 ·rw [h1, decide_eq_true h2]; rfl
 ·show (chF s).length ≤ 9000000
  omega
 ·rw [h1, decide_eq_false h2]
  cases hm : marksF (lw (chF s)) ((chF s).length - 1) 1 with
  | true => exact hT hm (dS (fun h4 => isD_of (by rw [decide_eq_true h4]; rfl)) fun h4 => isD_of (by rw [decide_eq_false h4]; rfl))
  | false => exact hF (fun e => by rw [show marksF (lw (chF s)) ((chF s).length - 1) 1 = true from e] at hm; cases hm) (isD_of rfl)
end Go.Proofs.YtfdldnomelnbgaaGreatDoor

namespace Go.Proofs.YtfdldnomelnbgaaGreatDoor
open Go Go.AE Go.DE Go.RowKit

noncomputable def ckC (F : ByteArray → Int) : ConF := fun args k => match args with
 | [.v (.string s)] => bif decide (s.size ≤ 9000000) then k (fun _ => (iv (F s), [])) else none
 | _ => none
theorem ckC_ok {st : AE.Stat} (hx : ∀ f, exA f = false → ∀ a σ, st.ext f a σ = none) : ConOk Tryz.prog st 84 (ckC check3) := by
 refine con_flat (mg := []) (l := ckL validF chF markF widF) (lp := lpOf [(250, mkI.g)]) (n := 0) (glOk st) (fun x h => ?_) Tryz.func84 (by kernel_rfl) (by kernel_rfl) (hx 84 rfl) (lp_one (by kernel_rfl) (mk_ls hx)) fun args k hk => ?_
 ·simp only [ckL, List.mem_cons, List.not_mem_nil, or_false] at h
  rcases h with rfl | rfl | rfl | rfl
  ·exact vaC_ok hx
  ·exact chC_ok hx
  ·exact markC_ok hx
  ·exact widC_ok hx
 unfold ckC at hk
 split at hk <;> first | (cases hk; done) | skip
 rename_i s
 obtain ⟨hn, hk⟩ := dec_none hk
 exact ⟨[sv s], _, .self .nil, v_clo _, hk, ck_true s hn⟩
noncomputable abbrev cwL (F : ByteArray → Int) (A : ByteArray → List Int) (D : Int → Int) : List (FuncId × ConF) := [(84, ckC F), (105, chG A), (107, widC D)]
theorem cw_tree (F : ByteArray → Int) (A : ByteArray → List Int) (D : Int → Int) (s : ByteArray) (k : DV → Option Unit) : bodyD Tryz.prog (env (cwL F A D) noLp 0) Tryz.f85 [sv s] [] (fun d _ => k d) =
  bif decide (ByteArray.size s ≤ 9000000) then bif F s != 0 then k (iv 0) else bif decide (ByteArray.size s ≤ 9000000) then bif decide (0 < (↑(List.length (A s)) : Int)) then bif decide (0 + 0 / DBlk.k (lstB IntKind.i32 (A s)) < List.length (A s))
  then k (iv (D (lw (A s) (0 + 0 / DBlk.k (lstB IntKind.i32 (A s)))))) else none else none else none else none := by
 kernel_rfl
/-- The reference's width of a cluster. -/
def width3 (s : ByteArray) : Int := if check3 s = 0 then widF (lw (decF s).1 0) else 0
theorem check3_ne {s : ByteArray} (h : check3 s = 0) : 0 < (decF s).1.length := by
 unfold check3 at h
 cases h1 : (ByteArray.toList s == ByteArray.toList ⟨#[]⟩) with
 | true => rw [h1] at h; cases h
 | false =>
  cases h2 : validF s with
  | false => rw [h1, h2] at h; cases h
  | true => exact List.length_pos_iff.2 (valid_ne h2 fun e => by rw [e, beq_self_eq_true] at h1; cases h1)
theorem cw_true (s : ByteArray) (hn : s.size ≤ 9000000) : bodyD Tryz.prog (env (cwL check3 chF widF) noLp 0) Tryz.f85 [sv s] [] (fun d _ => isD (iv (width3 s)) d) = some () := by
 refine (cw_tree check3 chF widF s _).trans ?_
 have hlen : (chF s).length ≤ s.size := decF_len hn
 have z0 : 0 + 0 / (lstB IntKind.i32 (chF s)).k = 0 := by simp [lstB]
 simp only [z0]
 refine dT hn (cS (fun h => isD_of ?_) fun h => ?_)
 ·have h : check3 s ≠ 0 := by simpa using h
  unfold width3; rw [if_neg h]
 ·have h : check3 s = 0 := by simpa using h
  have hne := check3_ne h
  refine dT hn (dT (by have : 0 < (chF s).length := hne; omega) (dT hne (isD_of ?_)))
  unfold width3; rw [if_pos h]
  rfl
noncomputable def cwC (F : ByteArray → Int) : ConF := fun args k => match args with
 | [.v (.string s)] => bif decide (s.size ≤ 9000000) then k (fun _ => (iv (F s), [])) else none
 | _ => none
theorem cwC_ok {st : AE.Stat} (hx : ∀ f, exA f = false → ∀ a σ, st.ext f a σ = none) : ConOk Tryz.prog st 85 (cwC width3) := by
 refine con_flat (mg := []) (l := cwL check3 chF widF) (lp := noLp) (n := 0) (glOk st) (fun x h => ?_) Tryz.func85 (by kernel_rfl) (by kernel_rfl) (hx 85 rfl) (fun _ _ _ h => nomatch h) fun args k hk => ?_
 ·simp only [cwL, List.mem_cons, List.not_mem_nil, or_false] at h
  rcases h with rfl | rfl | rfl
  ·exact ckC_ok hx
  ·exact chC_ok hx
  ·exact widC_ok hx
 unfold cwC at hk
 split at hk <;> first | (cases hk; done) | skip
 rename_i s
 obtain ⟨hn, hk⟩ := dec_none hk
 exact ⟨[sv s], _, .self .nil, v_clo _, hk, cw_true s hn⟩
/-- A row of cells. -/
structure Row where
 n : Nat
 tx : Nat → ByteArray
 wd : Nat → Int
 fo : Nat → Int
 ba : Nat → Int
 fl : Nat → Int
def Row.cell (r : Row) (i : Nat) : Nat → DV
 | 0 => sv (r.tx i)
 | 1 => iv (r.wd i)
 | 2 => iv (r.fo i)
 | 3 => iv (r.ba i)
 | _ => iv (r.fl i)
/-- Whether a cell is the one behind a wide one. -/
def Row.half (r : Row) (i j : Nat) : Bool :=
 bif r.tx j == ⟨#[]⟩ then (bif r.wd j == 0 then (bif (bif r.fo j == r.fo i then (bif r.ba j == r.ba i then (bif r.fl j == r.fl i then true else false) else false) else false) then true else false) else false) else false
/-- The reference's check of a row, from a cell on. -/
def c7s (r : Row) (i : Nat) (a b : Int) : Int :=
 bif (r.wd i != 1) && (r.wd i != 2) then 12 else bif check3 (r.tx i) != 0 then 3 else bif width3 (r.tx i) != r.wd i then 12 else
  bif r.wd i == 1 then a else bif ((i + 1 : Nat) : Int) == (r.n : Int) then 12 else bif r.half i (i + 1) then b else 12
def c7 (r : Row) : Nat → Nat → Int
 | 0, _ => 0
 | m + 1, i => if i < r.n then c7s r i (c7 r m (i + 1)) (c7 r m (i + 2)) else 0
def Row.sized (r : Row) : Prop := r.n ≤ 9000000 ∧ ∀ i, i < r.n → (r.tx i).size ≤ 9000000
/-- How a loop ends that answers a number unless it is 0. -/
def qe (v : Int) : Ex := if v = 0 then .exit 0 else .ret
def qo (v : Int) : List DV := if v = 0 then [.any] else [iv v]
theorem q_cps {v : Int} {σ : DHeap} {k : Ex → List DV → DHeap → Option Unit} (h : (bif holds (v = 0) then k (.exit 0) [.any] σ else k .ret [iv v] σ) = some ()) : k (qe v) (qo v) σ = some () := by
 rcases bif_some h with ⟨h1, h2⟩ | ⟨h1, h2⟩
 ·unfold qe qo; rw [if_pos (holds_eq.1 h1), if_pos (holds_eq.1 h1)]; exact h2
 ·have h1 : ¬ v = 0 := fun e => by rw [holds_eq.2 e] at h1; cases h1
  unfold qe qo; rw [if_neg h1, if_neg h1]; exact h2
def strD : DV → ByteArray
 | .v (.string s) => s
 | _ => ⟨#[]⟩
/-- A row, out of its cells. -/
def rowOf (g : Nat → Nat → DV) (n : Nat) : Row := ⟨n, fun i => strD (g i 0), fun i => numD (g i 1), fun i => numD (g i 2), fun i => numD (g i 3), fun i => numD (g i 4)⟩
structure CX where
 t : Bool
 r : Row
 m : Nat
 i : Nat
def CX.q (x : CX) : Int := c7 x.r x.m x.i
noncomputable def rwI : LInv CX where
 pre x := x.r.sized ∧ x.r.n ≤ x.m + x.i
 m := 0
 n := 68
 ps := [0, 3]
 sd x := [.sl x.t x.r.cell 5 x.r.n, iv x.i]
 sh _ := []
 meas x := x.r.n - x.i
 e x := qe x.q
 qs := [2]
 od x := qo x.q
 oh _ := []
 guess ds _ := match ds with
  | [.sl t g 5 n, _] => some ⟨t, rowOf g n, n, 0⟩
  | _ => none
 cps x k := bif holds (x.q = 0) then k (.exit 0) [.any] [] else k .ret [iv x.q] []
theorem rw_loop (F G : ByteArray → Int) (t : Bool) (r : Row) (i : Nat) (K : Ex → Nat → List DV → List DV → DHeap → Option Unit) : execD Tryz.prog (env [(84, ckC F), (85, cwC G)] noLp 0) (loopAt Tryz.f50 58) 500 (temps 68 [0, 3] [.sl t r.cell 5 r.n, iv i]) [] (fun e τ σ => K e τ.length (pick [0, 3] τ) (pick [2] τ) σ) =
  bif decide ((i : Int) < (r.n : Int)) then bif decide ((i : Int) < (r.n : Int)) then bif decide (tN i < r.n) then bif r.wd (tN i) != 1 then bif r.wd (tN i) != 2 then K .ret 68 [.sl t r.cell 5 r.n, iv (i : Int)] [iv 12] []
  else bif decide ((i : Int) < (r.n : Int)) then bif decide (tN i < r.n) then bif decide (ByteArray.size (r.tx (tN i)) ≤ 9000000) then bif F (r.tx (tN i)) != 0 then K .ret 68 [.sl t r.cell 5 r.n, iv (i : Int)] [iv 3] []
  else bif decide ((i : Int) < (r.n : Int)) then bif decide (tN i < r.n) then bif decide (ByteArray.size (r.tx (tN i)) ≤ 9000000) then bif G (r.tx (tN i)) != r.wd (tN i) then K .ret 68 [.sl t r.cell 5 r.n, iv (i : Int)] [iv 12] []
  else bif r.wd (tN i) == 1 then K .normal 68 [.sl t r.cell 5 r.n, iv (IntKind.wrap .i64 ((i : Int) + 1))] [DV.any] [] else bif IntKind.wrap .i64 ((i : Int) + 1) == (r.n : Int) then K .ret 68 [.sl t r.cell 5 r.n, iv (i : Int)] [iv 12] []
  else bif decide (0 ≤ IntKind.wrap .i64 ((i : Int) + 1)) then bif decide (IntKind.wrap .i64 ((i : Int) + 1) < (r.n : Int)) then bif decide (Int.toNat (IntKind.wrap .i64 ((i : Int) + 1)) + 0 < r.n) then
  bif decide (Int.toNat (IntKind.wrap .i64 ((i : Int) + 1)) + 0 < r.n) then bif decide (Int.toNat (IntKind.wrap .i64 ((i : Int) + 1)) + 0 < r.n) then bif decide (Int.toNat (IntKind.wrap .i64 ((i : Int) + 1)) + 0 < r.n)
  then bif decide (Int.toNat (IntKind.wrap .i64 ((i : Int) + 1)) + 0 < r.n) then bif decide ((i : Int) < (r.n : Int)) then bif decide (tN i < r.n) then bif decide (tN i < r.n) then bif decide (tN i < r.n)
  then bif !bif r.tx (Int.toNat (IntKind.wrap .i64 ((i : Int) + 1)) + 0) == { data := #[] } then bif r.wd (Int.toNat (IntKind.wrap .i64 ((i : Int) + 1)) + 0) == 0 then bif bif r.fo (Int.toNat (IntKind.wrap .i64 ((i : Int) + 1)) + 0) == r.fo (tN i)
  then bif r.ba (Int.toNat (IntKind.wrap .i64 ((i : Int) + 1)) + 0) == r.ba (tN i) then bif r.fl (Int.toNat (IntKind.wrap .i64 ((i : Int) + 1)) + 0) == r.fl (tN i) then true else false else false else false
  then true else false else false else false then K .ret 68 [.sl t r.cell 5 r.n, iv (i : Int)] [iv 12] [] else K .normal 68 [.sl t r.cell 5 r.n, iv (IntKind.wrap .i64 (IntKind.wrap .i64 ((i : Int) + 1) + 1))] [DV.any] []
  else none else none else none else none else none else none else none else none else none else none else none else none else none else none else none else none else none else bif decide ((i : Int) < (r.n : Int))
  then bif decide (tN i < r.n) then bif decide (ByteArray.size (r.tx (tN i)) ≤ 9000000) then bif F (r.tx (tN i)) != 0 then K .ret 68 [.sl t r.cell 5 r.n, iv (i : Int)] [iv 3] [] else bif decide ((i : Int) < (r.n : Int))
  then bif decide (tN i < r.n) then bif decide (ByteArray.size (r.tx (tN i)) ≤ 9000000) then bif G (r.tx (tN i)) != r.wd (tN i) then K .ret 68 [.sl t r.cell 5 r.n, iv (i : Int)] [iv 12] [] else bif r.wd (tN i) == 1
  then K .normal 68 [.sl t r.cell 5 r.n, iv (IntKind.wrap .i64 ((i : Int) + 1))] [DV.any] [] else bif IntKind.wrap .i64 ((i : Int) + 1) == (r.n : Int) then K .ret 68 [.sl t r.cell 5 r.n, iv (i : Int)] [iv 12] []
  else bif decide (0 ≤ IntKind.wrap .i64 ((i : Int) + 1)) then bif decide (IntKind.wrap .i64 ((i : Int) + 1) < (r.n : Int)) then bif decide (Int.toNat (IntKind.wrap .i64 ((i : Int) + 1)) + 0 < r.n) then
  bif decide (Int.toNat (IntKind.wrap .i64 ((i : Int) + 1)) + 0 < r.n) then bif decide (Int.toNat (IntKind.wrap .i64 ((i : Int) + 1)) + 0 < r.n) then bif decide (Int.toNat (IntKind.wrap .i64 ((i : Int) + 1)) + 0 < r.n)
  then bif decide (Int.toNat (IntKind.wrap .i64 ((i : Int) + 1)) + 0 < r.n) then bif decide ((i : Int) < (r.n : Int)) then bif decide (tN i < r.n) then bif decide (tN i < r.n) then bif decide (tN i < r.n)
  then bif !bif r.tx (Int.toNat (IntKind.wrap .i64 ((i : Int) + 1)) + 0) == { data := #[] } then bif r.wd (Int.toNat (IntKind.wrap .i64 ((i : Int) + 1)) + 0) == 0 then bif bif r.fo (Int.toNat (IntKind.wrap .i64 ((i : Int) + 1)) + 0) == r.fo (tN i)
  then bif r.ba (Int.toNat (IntKind.wrap .i64 ((i : Int) + 1)) + 0) == r.ba (tN i) then bif r.fl (Int.toNat (IntKind.wrap .i64 ((i : Int) + 1)) + 0) == r.fl (tN i) then true else false else false else false
  then true else false else false else false then K .ret 68 [.sl t r.cell 5 r.n, iv (i : Int)] [iv 12] [] else K .normal 68 [.sl t r.cell 5 r.n, iv (IntKind.wrap .i64 (IntKind.wrap .i64 ((i : Int) + 1) + 1))] [DV.any] []
  else none else none else none else none else none else none else none else none else none else none else none else none else none else none else none else none else none else none else none else K (.exit 0) 68 [.sl t r.cell 5 r.n, iv (i : Int)] [DV.any] [] := by
 kernel_rfl
theorem rw_ls {st : AE.Stat} (hx : ∀ f, exA f = false → ∀ a σ, st.ext f a σ = none) : LoopS Tryz.prog st gl0 (.loop (loopAt Tryz.f50 58)) rwI.g := by
 refine rwI.ok (E := env [(84, ckC check3), (85, cwC width3)] noLp 0) (p := 500) (tblD_env (l := [(84, ckC check3), (85, cwC width3)]) (fun x h => ?_)) (glOk st).1 (fun _ _ _ h => nomatch h) (fun x k h => ?_) fun x hx => ?_
 ·simp only [List.mem_cons, List.not_mem_nil, or_false] at h
  rcases h with rfl | rfl
  ·exact ckC_ok hx
  ·exact cwC_ok hx
 ·exact q_cps h
 obtain ⟨t, r, m, i⟩ := x
 obtain ⟨hn, hm⟩ : r.sized ∧ r.n ≤ m + i := hx
 refine (rw_loop check3 width3 t r i _).trans ?_
 simp only [Int.toNat_natCast, Nat.add_zero]
 have hsz := hn.1
 refine dS (fun hlt => ?_) fun hge => ?_
 ·have hlt : i < r.n := by omega
  have hts := hn.2 i hlt
  obtain ⟨m, rfl⟩ : ∃ m', m = m' + 1 := ⟨m - 1, by omega⟩
  have hW : IntKind.i64.wrap ((i : Int) + 1) = ((i + 1 : Nat) : Int) := by rw [W_in (by omega) (by omega)]; omega
  have hW2 : IntKind.i64.wrap (((i + 1 : Nat) : Int) + 1) = ((i + 2 : Nat) : Int) := by rw [W_in (by omega) (by omega)]; omega
  simp only [hW, hW2, Int.toNat_natCast]
  have hq : CX.q ⟨t, r, m + 1, i⟩ = c7s r i (c7 r m (i + 1)) (c7 r m (i + 2)) := by simp only [CX.q, c7, if_pos hlt]
  have stop : ∀ (v : Int), v ≠ 0 → CX.q ⟨t, r, m + 1, i⟩ = v → rwI.ask ⟨t, r, m + 1, i⟩ .ret 68 [.sl t r.cell 5 r.n, iv i] [iv v] [] = some () := fun v hv hq => by
   refine LInv.ask_of ⟨rfl, ?_, [], ?_⟩
   ·simp only [rwI]; rw [hq]; exact (if_neg hv).symm
   ·simp only [rwI]; rw [hq]; show WkP 0 [] _ _ (qo v) _; rw [show qo v = [iv v] from if_neg hv]; exact wk0 (.cons (.v _) .nil) rfl
  have go : ∀ (j : Nat), i < j → CX.q ⟨t, r, m, j⟩ = CX.q ⟨t, r, m + 1, i⟩ → rwI.ask ⟨t, r, m + 1, i⟩ .normal 68 [.sl t r.cell 5 r.n, iv j] [.any] [] = some () := fun j hj hq =>
   LInv.ask_of ⟨rfl, ⟨t, r, m, j⟩, ⟨by simp only [rwI, hq], by simp only [rwI, hq], rfl, hn, by show r.n ≤ m + j; omega⟩, by simp only [rwI]; omega, [], wk0 (.cons (.sl _ _ _ _) (.cons (.v _) .nil)) rfl⟩
  rw [hq] at stop go
  unfold c7s at stop go
  refine dT (by omega) (dT hlt (cS (fun h1 => cS (fun h2 => stop 12 (by decide) (by rw [h1, h2]; rfl)) fun h2 => ?_) fun h1 => ?_))
  all_goals
   have hh : ((r.wd i != 1) && (r.wd i != 2)) = false := by simp [h1] <;> simpa using h2
   rw [hh, cond_false] at stop go
   refine dT (by omega) (dT hlt (dT hts (cS (fun h3 => stop 3 (by decide) (by rw [h3]; rfl)) fun h3 => ?_)))
   rw [h3, cond_false] at stop go
   refine dT (by omega) (dT hlt (dT hts (cS (fun h4 => stop 12 (by decide) (by rw [h4]; rfl)) fun h4 => ?_)))
   rw [h4, cond_false] at stop go
   refine cS (fun h5 => go (i + 1) (by omega) (by rw [h5, cond_true]; rfl)) fun h5 => ?_
   rw [h5, cond_false] at stop go
   refine cS (fun h6 => stop 12 (by decide) (by rw [h6]; rfl)) fun h6 => ?_
   rw [h6, cond_false] at stop go
   have h6 : ((i + 1 : Nat) : Int) ≠ r.n := by simpa using h6
   refine dT (by omega) (dT (by omega) (dT (by omega) (dT (by omega) (dT (by omega) (dT (by omega) (dT (by omega) (dT (by omega) (dT hlt (dT hlt (dT hlt (cS (fun h7 => ?_) fun h7 => ?_)))))))))))
   ·have h7 : (!r.half i (i + 1)) = true := h7
    have h7 : r.half i (i + 1) = false := by simpa using h7
    exact stop 12 (by decide) (by rw [h7]; rfl)
   ·have h7 : (!r.half i (i + 1)) = false := h7
    have h7 : r.half i (i + 1) = true := by simpa using h7
    exact go (i + 2) (by omega) (by rw [h7, cond_true]; rfl)
 ·have hr : CX.q ⟨t, r, m, i⟩ = 0 := by
   cases m with
   | zero => rfl
   | succ m => simp only [CX.q, c7]; rw [if_neg (by omega)]
  refine LInv.ask_of ⟨rfl, ?_, [], ?_⟩
  ·simp only [rwI]; rw [hr]; rfl
  ·simp only [rwI]; rw [hr]; exact wk0 (.cons (.any _) .nil) rfl
end Go.Proofs.YtfdldnomelnbgaaGreatDoor
