/-
  The contracts of the reference's Characters, and of its clusters' Check and Width.
  Conditions: none beyond those of the contracts.
-/
import Derived.Test.YtabchbchopgnfaaGreatDoorJClu
namespace Go.Proofs.YtabchbchopgnfaaGreatDoor
open Go Go.AE Go.DE Go.RowKit

theorem ch_tree (s : ByteArray) (K : DV → DHeap → Option Unit) : bodyD Tryz.prog (env [(56, decC)] noLp 0) Tryz.f100 [sv s] [] (fun d σ => K d σ) =
    bif decide ((0 : Nat) + ByteArray.size s ≤ (9000000 : Nat)) then K (DV.os (0 : Nat) (0 : Nat) (List.length (Prod.fst (decF ({ data := #[] } ++ s))))) [some { k := (1 : Nat), c := DC.tab (List.length (Prod.fst (decF ({ data := #[] } ++ s)))) fun a a_1 => DV.v (Value.int IntKind.i32 (lw (Prod.fst (decF ({ data := #[] } ++ s))) a)) }]
    else none := by
  kernel_rfl
noncomputable def chC : ConF := fun args k => match args with
  | [.v (.string s)] => bif decide (s.size ≤ 9000000) then k (fun b => (.os b 0 (decF s).1.length, [some (lstB .i32 (decF s).1)])) else none
  | _ => none
theorem chC_ok {st : AE.Stat} (hx : ∀ f, f ≠ 5 → f ≠ 22 → ∀ a σ, st.ext f a σ = none) : ConOk Tryz.prog st 100 chC := by
  refine con_of (mg := []) (l := [(56, decC)]) (lp := noLp) (n := 0) (glOk st) (fun x h => ?_) Tryz.func100 (by kernel_rfl) (by kernel_rfl) (hx 100 (by decide) (by decide)) (fun _ _ _ h => nomatch h) fun args k hk => ?_
  · simp only [List.mem_cons, List.not_mem_nil, or_false] at h
    subst h
    exact decC_ok hx
  unfold chC at hk
  split at hk <;> first | (cases hk; done) | skip
  rename_i s
  obtain ⟨hn, hk⟩ := dec_none hk
  refine ⟨[sv s], _, .self .nil, hk, fun b => ⟨lowR_lst (.os _ _ _), (ch_tree s _).trans ?_⟩⟩
  rw [nil_app]
  refine dT (by omega) (fin_of ?_)
  exact finQ_own (id := 0) (blk := lstB .i32 (decF s).1) rfl rfl rfl (Nat.le_refl _) trivial fun i f hi hf => ⟨.v _, rfl⟩
/-- Whether all characters from one on are marks. -/
def marksF (z : Nat → Int) : Nat → Nat → Bool
  | 0, _ => true
  | m + 1, i => bif markF (z i) then marksF z m (i + 1) else false
structure MX where
  z : Nat → Int
  n : Nat
  i : Nat
def MX.r (x : MX) : Bool := marksF x.z (x.n - x.i) x.i
noncomputable def mkI : LInv MX where
  pre x := x.n ≤ 9000000
  m := 1
  n := 40
  ps := [3, 4]
  sd x := [.os 0 0 x.n, iv x.i]
  sh x := [some ⟨1, .tab x.n (rowI .i32 x.z)⟩]
  meas x := x.n - x.i
  e x := match x.r with
    | true => .exit 0
    | false => .ret
  qs := [2, 3]
  od x := match x.r with
    | true => [.any, .os 0 0 x.n]
    | false => [iv 9, .any]
  oh x := [some ⟨1, .tab x.n (rowI .i32 x.z)⟩]
  guess ds σ := match ds, σ with
    | [.os 0 0 n, _], [some ⟨1, .tab _ g⟩] => some ⟨fun i => numD (g i 0), n, 1⟩
    | _, _ => none
  cps x k := bif holds (x.r = true) then k (.exit 0) [.any, .os 0 0 x.n] [some ⟨1, .tab x.n (rowI .i32 x.z)⟩] else k .ret [iv 9, .any] [some ⟨1, .tab x.n (rowI .i32 x.z)⟩]
theorem mk_loop (M : Int → Bool) (z : Nat → Int) (n i : Nat) (K : Ex → Nat → List DV → List DV → DHeap → Option Unit) : execD Tryz.prog (env [(101, markC M)] noLp 0) (loopAt Tryz.f58 250) 500 (temps 40 [3, 4] [.os 0 0 n, iv i]) [some ⟨1, .tab n (rowI .i32 z)⟩] (fun e τ σ => K e τ.length (pick [3, 4] τ) (pick [2, 3] τ) σ) =
    bif decide ((↑i : Int) < (↑n : Int)) then bif decide ((↑i : Int) < (↑n : Int)) then bif decide ((0 : Nat) + Int.toNat (↑i : Int) + (0 : Nat) < n) then bif !M (z ((0 : Nat) + Int.toNat (↑i : Int) + (0 : Nat)))
    then K Ex.ret (40 : Nat) [DV.os (0 : Nat) (0 : Nat) n, DV.v (Value.int IntKind.i64 (↑i : Int))] [DV.v (Value.int IntKind.i64 (9 : Int)), DV.os (0 : Nat) (0 : Nat) n] [some { k := (1 : Nat), c := DC.tab n fun a a_1 => DV.v (Value.int IntKind.i32 (z a)) }]
    else K Ex.normal (40 : Nat) [DV.os (0 : Nat) (0 : Nat) n, DV.v (Value.int IntKind.i64 (IntKind.wrap IntKind.i64 ((↑i : Int) + (1 : Int))))] [DV.any, DV.os (0 : Nat) (0 : Nat) n] [some { k := (1 : Nat), c := DC.tab n fun a a_1 => DV.v (Value.int IntKind.i32 (z a)) }]
    else none else none else K (Ex.exit (0 : Nat)) (40 : Nat) [DV.os (0 : Nat) (0 : Nat) n, DV.v (Value.int IntKind.i64 (↑i : Int))] [DV.any, DV.os (0 : Nat) (0 : Nat) n] [some { k := (1 : Nat), c := DC.tab n fun a a_1 => DV.v (Value.int IntKind.i32 (z a)) }] := by
  kernel_rfl
theorem wkB {z : Nat → Int} {n : Nat} {ds ds2 : List DV} (tm : SubL (ren 1 []) ds2 ds) : WkP 1 [] ds [some ⟨1, .tab n (rowI .i32 z)⟩] ds2 [some ⟨1, .tab n (rowI .i32 z)⟩] :=

  .of (im := [some 0]) tm rfl ⟨⟨0, _, rfl, rfl, ⟨rfl, Nat.le_refl _, trivial, fun _ _ _ _ => .v _⟩⟩, trivial⟩ rfl (by decide)
theorem bool_if {p : Prop} {b : Bool} (h : b = false) (hp : p ↔ b = true) : ¬ p := fun q => by rw [hp.1 q] at h; cases h
theorem mk_ls {st : AE.Stat} (hx : ∀ f, f ≠ 5 → f ≠ 22 → ∀ a σ, st.ext f a σ = none) : LoopS Tryz.prog st gl0 (.loop (loopAt Tryz.f58 250)) mkI.g := by
  refine mkI.ok (E := env [(101, markC markF)] noLp 0) (p := 500) (tblD_env (l := [(101, markC markF)]) (fun x h => ?_)) (glOk st).1 (fun _ _ _ h => nomatch h) (fun x k h => ?_) fun x hx => ?_
  · simp only [List.mem_cons, List.not_mem_nil, or_false] at h
    subst h
    exact markC_ok hx
  · simp only [mkI] at h ⊢
    cases hr : x.r with
    | true => rw [hr, holds_eq.2 rfl] at h; exact h
    | false =>
      have hf : holds (false = true) = false := by
        cases hb : holds (false = true) with
        | false => rfl
        | true => exact absurd (holds_eq.1 hb) (by decide)
      rw [hr, hf] at h; exact h
  obtain ⟨z, n, i⟩ := x
  have hn : n ≤ 9000000 := hx
  refine (mk_loop markF z n i _).trans ?_
  simp only [Int.toNat_natCast, Nat.add_zero, Nat.zero_add]
  refine dS (fun hlt => ?_) fun hge => ?_
  · have hlt : i < n := by omega
    have e : n - i = (n - (i + 1)) + 1 := by omega
    have hW : IntKind.i64.wrap ((i : Int) + 1) = ((i + 1 : Nat) : Int) := by rw [W_in (by omega) (by omega)]; omega
    rw [hW]
    refine dT (by omega) (dT hlt (cS (fun h => ?_) fun h => ?_))
    · have h : markF (z i) = false := by simpa using h
      have hr : MX.r ⟨z, n, i⟩ = false := by simp only [MX.r, e, marksF, h, cond_false]
      refine LInv.ask_of ⟨rfl, ?_, [], ?_⟩
      · simp only [mkI, hr]
      · simp only [mkI, hr]
        exact wkB (.cons (.v _) (.cons (.any _) .nil))
    · have h : markF (z i) = true := by simpa using h
      have hr : MX.r ⟨z, n, i + 1⟩ = MX.r ⟨z, n, i⟩ := by simp only [MX.r, e, marksF, h, cond_true]
      refine LInv.ask_of ⟨rfl, ⟨z, n, i + 1⟩, ⟨?_, ?_, rfl, hn⟩, ?_, [], ?_⟩
      · simp only [mkI, hr]
      · simp only [mkI, hr]
      · simp only [mkI]; omega
      · exact wkB (.cons (.os rfl) (.cons (.v _) .nil))
  · have hr : MX.r ⟨z, n, i⟩ = true := by
      have : n - i = 0 := by omega
      simp only [MX.r, this, marksF]
    refine LInv.ask_of ⟨rfl, ?_, [], ?_⟩
    · simp only [mkI, hr]
    · simp only [mkI, hr]
      exact wkB (.cons (.any _) (.cons (.os rfl) .nil))
noncomputable def vaG (V : ByteArray → Bool) : ConF := fun args k => match args with
  | [.v (.string s)] => bif decide (s.size ≤ 9000000) then k (fun _ => (bv (V s), [])) else none
  | _ => none
noncomputable def chG (A : ByteArray → List Int) : ConF := fun args k => match args with
  | [.v (.string s)] => bif decide (s.size ≤ 9000000) then k (fun b => (.os b 0 (A s).length, [some (lstB .i32 (A s))])) else none
  | _ => none
def chF (s : ByteArray) : List Int := (decF s).1
noncomputable abbrev ckL (V : ByteArray → Bool) (A : ByteArray → List Int) (M : Int → Bool) (D : Int → Int) : List (FuncId × ConF) := [(27, vaG V), (100, chG A), (101, markC M), (102, widC D)]
theorem ck_tree (V : ByteArray → Bool) (A : ByteArray → List Int) (M : Int → Bool) (D : Int → Int) (s : ByteArray) (k : DV → Option Unit) : bodyD Tryz.prog (env (ckL V A M D) (lpOf [(250, mkI.g)]) 0) Tryz.f58 [sv s] [] (fun d _ => k d) =
    bif ByteArray.toList s == ByteArray.toList { data := #[] } then k (DV.v (Value.int IntKind.i64 (3 : Int))) else bif decide (ByteArray.size s ≤ (9000000 : Nat)) then bif !V s then k (DV.v (Value.int IntKind.i64 (3 : Int)))
    else bif decide (ByteArray.size s ≤ (9000000 : Nat)) then bif decide ((0 : Int) < (↑(List.length (A s)) : Int)) then bif decide ((0 : Nat) + (0 : Nat) / DBlk.k (lstB IntKind.i32 (A s)) < List.length (A s))
    then bif M (lw (A s) ((0 : Nat) + (0 : Nat) / DBlk.k (lstB IntKind.i32 (A s)))) then k (DV.v (Value.int IntKind.i64 (9 : Int))) else bif decide ((0 : Int) < (↑(List.length (A s)) : Int)) then bif decide ((0 : Nat) + (0 : Nat) / DBlk.k (lstB IntKind.i32 (A s)) < List.length (A s))
    then bif decide (D (lw (A s) ((0 : Nat) + (0 : Nat) / DBlk.k (lstB IntKind.i32 (A s)))) < (1 : Int)) then k (DV.v (Value.int IntKind.i64 (9 : Int))) else bif holds (Nat.le (List.length (A s)) (9000000 : Nat) ∧ ∃ ids, WkP (1 : Nat) ids [DV.os (0 : Nat) (0 : Nat) (List.length (A s)), DV.v (Value.int IntKind.i64 (1 : Int))] [some { k := (1 : Nat), c := DC.tab (List.length (A s)) fun a a_1 => DV.v (Value.int IntKind.i32 (lw (A s) a)) }] [DV.os (0 : Nat) (0 : Nat) (List.length (A s)), DV.v (Value.int IntKind.i64 (1 : Int))] [some { k := (1 : Nat), c := DC.tab (List.length (A s)) fun a a_1 => DV.v (Value.int IntKind.i32 ((fun i => numD (DV.v (Value.int IntKind.i32 (lw (A s) i)))) a)) }])
    then bif holds (MX.r { z := fun i => numD (DV.v (Value.int IntKind.i32 (lw (A s) i))), n := List.length (A s), i := (1 : Nat) } = true) then bif decide ((↑(List.length (A s)) : Int) > (4 : Int)) then k (DV.v (Value.int IntKind.i64 (5 : Int)))
    else k (DV.v (Value.int IntKind.i64 (0 : Int))) else k (DV.v (Value.int IntKind.i64 (9 : Int))) else none else none else none else none else none else none else none := by
  kernel_rfl
/-- The reference's check of a cluster. -/
def check3 (s : ByteArray) : Int :=
  bif ByteArray.toList s == ByteArray.toList ⟨#[]⟩ then 3 else bif validF s then
    bif markF (lw (decF s).1 0) then 9 else bif decide (widF (lw (decF s).1 0) < 1) then 9 else
      bif marksF (lw (decF s).1) ((decF s).1.length - 1) 1 then (bif decide (((decF s).1.length : Int) > 4) then 5 else 0) else 9
  else 3
theorem ck_true (s : ByteArray) (hn : s.size ≤ 9000000) : bodyD Tryz.prog (env (ckL validF chF markF widF) (lpOf [(250, mkI.g)]) 0) Tryz.f58 [sv s] [] (fun d _ => isD (iv (check3 s)) d) = some () := by
  refine (ck_tree validF chF markF widF s _).trans ?_
  have hlen : (chF s).length ≤ s.size := decF_len hn
  refine cS (fun h => isD_of ?_) fun h => dT hn (cS (fun hv => isD_of ?_) fun hv => ?_)
  · unfold check3; rw [h]; rfl
  · have hv : validF s = false := by simpa using hv
    unfold check3; rw [h, hv]; rfl
  have hv : validF s = true := by simpa using hv
  have hne : 0 < (chF s).length := List.length_pos_iff.2 (valid_ne hv fun e => by rw [e, beq_self_eq_true] at h; cases h)
  have z0 : 0 + 0 / (lstB IntKind.i32 (chF s)).k = 0 := by simp [lstB]
  simp only [z0]
  have hc : check3 s = bif markF (lw (chF s) 0) then 9 else bif decide (widF (lw (chF s) 0) < 1) then 9 else
      bif marksF (lw (chF s)) ((chF s).length - 1) 1 then (bif decide (((chF s).length : Int) > 4) then 5 else 0) else 9 := by unfold check3; rw [h, hv]; rfl
  rw [hc]
  refine dT hn (dT (by omega) (dT hne (cS (fun h1 => isD_of ?_) fun h1 => dT (by omega) (dT hne (dS (fun h2 => isD_of ?_) fun h2 => hT ⟨?_, [], wkB (.cons (.os rfl) (.cons (.v _) .nil))⟩ ?_)))))
  · rw [h1]; rfl
  · rw [h1, decide_eq_true h2]; rfl
  · show (chF s).length ≤ 9000000
    omega
  · rw [h1, decide_eq_false h2]
    cases hm : marksF (lw (chF s)) ((chF s).length - 1) 1 with
    | true => exact hT hm (dS (fun h4 => isD_of (by rw [decide_eq_true h4]; rfl)) fun h4 => isD_of (by rw [decide_eq_false h4]; rfl))
    | false => exact hF (fun e => by rw [show marksF (lw (chF s)) ((chF s).length - 1) 1 = true from e] at hm; cases hm) (isD_of rfl)
end Go.Proofs.YtabchbchopgnfaaGreatDoor
