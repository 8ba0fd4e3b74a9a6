/-
 The contracts of the reference's Valid and of its clusters' Check and Width.
 Conditions: none beyond those of the contracts.

 The contract of the reference's 'in': whether a character lies in one of some ranges; the tables of marks and of wide characters.
 Conditions: none beyond those of the contracts.

 The contracts of the reference's Mark and Width of a character.
 Conditions: none beyond those of the contracts.
-/
import Derived.Test.YtfdldnomelnbgaaGreatDoorJEnc
import Derived.Lib.IndexMore
namespace Go.Proofs.YtfdldnomelnbgaaGreatDoor
open Go Go.AE Go.DE Go.RowKit

noncomputable abbrev vaL : List (FuncId × ConF) := [(82, decC), (83, encC)]
theorem va_tree (s : ByteArray) (k : DV → Option Unit) : bodyD Tryz.prog (env vaL noLp 0) Tryz.f49 [sv s] [] (fun d _ => k d) =
  bif decide (0 + ByteArray.size s ≤ 9000000) then bif ByteArray.toList (Prod.snd (decF ({ data := #[] } ++ s))) == ByteArray.toList { data := #[] } then bif decide (0 + List.length (Prod.fst (decF ({ data := #[] } ++ s))) ≤ DC.n (DBlk.c (lstB IntKind.i32 (Prod.fst (decF ({ data := #[] } ++ s))))))
  then bif holds (∀ (i : Nat), i < List.length (Prod.fst (decF ({ data := #[] } ++ s))) → kv .i32 ((lw (Prod.fst (decF ({ data := #[] } ++ s))) (0 + i))) = kv .i32 ((numD (kv .i32 ((lw (Prod.fst (decF ({ data := #[] } ++ s))) (0 + i)))))))
  then bif decide (List.length (Prod.fst (decF ({ data := #[] } ++ s))) ≤ 9000000) then k (bv (ByteArray.toList (encF (fun i => numD (kv .i32 ((lw (Prod.fst (decF ({ data := #[] } ++ s))) (0 + i))))) (List.length (Prod.fst (decF ({ data := #[] } ++ s))))) == ByteArray.toList s))
  else none else none else none else k (bv false) else none := by
 kernel_rfl
theorem bytes_ext {a b : ByteArray} (h : a.data.toList = b.data.toList) : a = b := by
 obtain ⟨⟨l⟩⟩ := a
 obtain ⟨⟨m⟩⟩ := b
 exact congrArg (fun l => (⟨⟨l⟩⟩ : ByteArray)) h
theorem nil_app (s : ByteArray) : (⟨#[]⟩ : ByteArray) ++ s = s := bytes_ext (by rw [ByteArray.data_append, Array.toList_append]; rfl)
theorem DX.next {s : ByteArray} {i : Nat} {o k : List Int} (h : DX.ok ⟨s, i, o, k⟩) (hi : i < s.size) : DX.ok ⟨s, (dstep s i o k).1, (dstep s i o k).2.1, (dstep s i o k).2.2⟩ := by
 obtain ⟨h1, h2, h3, h4⟩ : i ≤ s.size ∧ s.size ≤ 9000000 ∧ o.length + min 1 k.length ≤ i ∧ k.length ≤ i := h
 unfold dstep
 by_cases hk : k = []
 ·subst hk
  rw [if_pos rfl]
  simp only [List.length_nil] at h3
  split
  ·exact ⟨hi, h2, by simp; omega, by simp⟩
  ·split
   ·exact ⟨hi, h2, by simp; omega, by simp⟩
   ·exact ⟨hi, h2, by simp; omega, by simp⟩
 ·have : 0 < k.length := List.length_pos_iff.2 hk
  rw [if_neg hk]
  split
  ·exact ⟨h1, h2, by simp; omega, by simp⟩
  ·split
   ·exact ⟨h1, h2, by simp; omega, by simp⟩
   ·split
    ·exact ⟨hi, h2, by simp; omega, by simp⟩
    ·exact ⟨hi, h2, by simp; omega, by simp; omega⟩
theorem decR_len (s : ByteArray) : ∀ (m i : Nat) (o k : List Int), DX.ok ⟨s, i, o, k⟩ → (decR s m i o k).1.length ≤ s.size
 | 0, i, o, k, h => by
  obtain ⟨h1, h2, h3, h4⟩ : i ≤ s.size ∧ s.size ≤ 9000000 ∧ o.length + min 1 k.length ≤ i ∧ k.length ≤ i := h
  show o.length ≤ s.size
  omega
 | m + 1, i, o, k, h => by
  rw [decR]
  by_cases hi : i < s.size
  ·rw [if_pos hi]
   exact decR_len s m _ _ _ (DX.next h hi)
  ·rw [if_neg hi]
   exact decR_len s 0 i o k h
theorem decF_len {s : ByteArray} (h : s.size ≤ 9000000) : (decF s).1.length ≤ s.size := decR_len s _ _ _ _ ⟨Nat.zero_le _, h, Nat.le_refl _, Nat.le_refl _⟩
/-- Well-formed strings. -/
def validF (s : ByteArray) : Bool := bif ByteArray.toList (decF s).2 == ByteArray.toList ⟨#[]⟩ then ByteArray.toList (encF (lw (decF s).1) (decF s).1.length) == ByteArray.toList s else false
theorem va_true (s : ByteArray) (hn : s.size ≤ 9000000) : bodyD Tryz.prog (env vaL noLp 0) Tryz.f49 [sv s] [] (fun d _ => isD (bv (validF s)) d) = some () := by
 refine (va_tree s _).trans ?_
 rw [nil_app]
 have hl := decF_len hn
 unfold validF
 refine dT (by omega) (cS (fun h => ?_) fun h => ?_)
 ·refine dT ?_ (hT (fun j hj => rfl) (dT (by omega) (isD_of ?_)))
  ·rw [Nat.zero_add]
   exact Nat.le_refl _
  ·rw [h, cond_true]
   simp only [Nat.zero_add, numD]
 ·refine isD_of ?_
  rw [h, cond_false]
noncomputable def vaC : ConF := fun args k => match args with
 | [.v (.string s)] => bif decide (s.size ≤ 9000000) then k (fun _ => (bv (validF s), [])) else none
 | _ => none
theorem vaL_ok {st : AE.Stat} (hx : ∀ f, exA f = false → ∀ a σ, st.ext f a σ = none) : ∀ x ∈ vaL, ConOk Tryz.prog st x.1 x.2 := fun x h => by
 simp only [vaL, List.mem_cons, List.not_mem_nil, or_false] at h
 rcases h with rfl | rfl
 ·exact decC_ok hx
 ·exact encC_ok hx
theorem vaC_ok {st : AE.Stat} (hx : ∀ f, exA f = false → ∀ a σ, st.ext f a σ = none) : ConOk Tryz.prog st 49 vaC := by
 refine con_flat (mg := []) (l := vaL) (lp := noLp) (n := 0) (glOk st) (vaL_ok hx) Tryz.func49 (by kernel_rfl) (by kernel_rfl) (hx 49 rfl) (fun _ _ _ h => nomatch h) fun args k hk => ?_
 unfold vaC at hk
 split at hk <;> first | (cases hk; done) | skip
 rename_i s
 obtain ⟨hn, hk⟩ := dec_none hk
 exact ⟨[sv s], _, .self .nil, v_clo _, hk, va_true s hn⟩
/-- A well-formed string that is not empty has a character. -/
theorem valid_ne {s : ByteArray} (h : validF s = true) (hs : s ≠ ⟨#[]⟩) : (decF s).1 ≠ [] := fun e => by
 unfold validF at h
 cases hb : ByteArray.toList (decF s).2 == ByteArray.toList ⟨#[]⟩ with
 | false => rw [hb] at h; cases h
 | true =>
  rw [hb, cond_true, e, beq_iff_eq] at h
  have h1 : ByteArray.toList (encF (lw []) ([] : List Int).length) = [] := by kernel_rfl
  rw [h1, Lib.toList_data] at h
  exact hs (bytes_ext h.symm)
end Go.Proofs.YtfdldnomelnbgaaGreatDoor

namespace Go.Proofs.YtfdldnomelnbgaaGreatDoor
open Go Go.AE Go.DE Go.RowKit

/-- Rows of two numbers. -/
def pr (lo hi : Nat → Int) (i : Nat) : Nat → Int
 | 0 => lo i
 | _ => hi i
def rowP (lo hi : Nat → Int) : Nat → Nat → DV := fun i f => kv .i32 (pr lo hi i f)
structure PX where
 t : Bool
 lo : Nat → Int
 hi : Nat → Int
 n : Nat
 v : Int
 i : Nat
def inR (lo hi : Nat → Int) (v : Int) : Nat → Nat → Bool
 | 0, _ => false
 | m + 1, i => if v ≥ pr lo hi i 0 then (if v ≤ pr lo hi i 1 then true else inR lo hi v m (i + 1)) else inR lo hi v m (i + 1)
def PX.r (x : PX) : Bool := inR x.lo x.hi x.v (x.n - x.i) x.i
noncomputable def inI : LInv PX where
 pre x := x.n ≤ 1000
 m := 0
 n := 28
 ps := [0, 1, 5]
 sd x := [.sl x.t (rowP x.lo x.hi) 2 x.n, kv .i32 x.v, iv x.i]
 sh _ := []
 meas x := x.n - x.i
 e x := match x.r with
  | true => .ret
  | false => .exit 0
 qs := [4]
 od x := match x.r with
  | true => [bv true]
  | false => [.any]
 oh _ := []
 guess ds _ := match ds with
  | [.sl t g 2 n, .v (.int _ v), _] => some ⟨t, fun i => numD (g i 0), fun i => numD (g i 1), n, v, 0⟩
  | _ => none
 cps x k := bif holds (x.r = true) then k .ret [bv true] [] else k (.exit 0) [.any] []
theorem in_loop (t : Bool) (lo hi : Nat → Int) (n i : Nat) (v : Int) (K : Ex → Nat → List DV → List DV → DHeap → Option Unit) : execD Tryz.prog (env [] noLp 0) (loopAt Tryz.f130 26) 500 (temps 28 [0, 1, 5] [.sl t (rowP lo hi) 2 n, kv .i32 v, iv i]) [] (fun e τ σ => K e τ.length (pick [0, 1, 5] τ) (pick [4] τ) σ) =
  bif decide ((i : Int) < (n : Int)) then bif decide ((i : Int) < (n : Int)) then bif decide (tN i < n) then bif decide (v ≥ pr lo hi (tN i) 0) then bif decide ((i : Int) < (n : Int)) then bif decide (tN i < n)
  then bif decide (v ≤ pr lo hi (tN i) 1) then K .ret 28 [.sl t (fun a a_1 => kv .i32 ((pr lo hi a a_1))) 2 n, kv .i32 v, iv (i : Int)] [bv true] [] else K .normal 28 [.sl t (fun a a_1 => kv .i32 ((pr lo hi a a_1))) 2 n, kv .i32 v, iv (IntKind.wrap .i64 ((i : Int) + 1))] [DV.any] []
  else none else none else K .normal 28 [.sl t (fun a a_1 => kv .i32 ((pr lo hi a a_1))) 2 n, kv .i32 v, iv (IntKind.wrap .i64 ((i : Int) + 1))] [DV.any] [] else none else none else K (.exit 0) 28 [.sl t (fun a a_1 => kv .i32 ((pr lo hi a a_1))) 2 n, kv .i32 v, iv (i : Int)] [DV.any] [] := by
 kernel_rfl
theorem in_ls {st : AE.Stat} : LoopS Tryz.prog st gl0 (.loop (loopAt Tryz.f130 26)) inI.g := by
 refine inI.ok (E := env [] noLp 0) (p := 500) (tblD_env (l := []) (fun _ h => nomatch h)) (glOk st).1 (fun _ _ _ h => nomatch h) (fun x k h => ?_) fun x hx => ?_
 ·simp only [inI] at h ⊢
  cases hr : x.r with
  | true => rw [hr, holds_eq.2 rfl] at h; exact h
  | false =>
   have hf : holds (false = true) = false := by
    cases hb : holds (false = true) with
    | false => rfl
    | true => exact absurd (holds_eq.1 hb) (by decide)
   rw [hr, hf] at h; exact h
 obtain ⟨t, lo, hi, n, v, i⟩ := x
 have hn : n ≤ 1000 := hx
 refine (in_loop t lo hi n i v _).trans ?_
 simp only [Int.toNat_natCast, Nat.add_zero]
 refine dS (fun hlt => ?_) fun hge => ?_
 ·have hlt : i < n := by omega
  have hW : IntKind.i64.wrap ((i : Int) + 1) = ((i + 1 : Nat) : Int) := by rw [W_in (by omega) (by omega)]; omega
  rw [hW]
  have e : n - i = (n - (i + 1)) + 1 := by omega
  have go : PX.r ⟨t, lo, hi, n, v, i + 1⟩ = PX.r ⟨t, lo, hi, n, v, i⟩ → inI.ask ⟨t, lo, hi, n, v, i⟩ .normal 28 [.sl t (rowP lo hi) 2 n, kv .i32 v, iv ((i + 1 : Nat) : Int)] [.any] [] = some () := fun hr => by
   refine LInv.ask_of ⟨rfl, ⟨t, lo, hi, n, v, i + 1⟩, ⟨?_, ?_, rfl, hn⟩, ?_, [], wk0 (.cons (.sl _ _ _ _) (.cons (.v _) (.cons (.v _) .nil))) rfl⟩
   ·simp only [inI, hr]
   ·simp only [inI, hr]
   ·simp only [inI]; omega
  refine dT (by omega) (dT hlt (dS (fun h1 => dT (by omega) (dT hlt (dS (fun h2 => ?_) fun h2 => go ?_))) fun h1 => go ?_))
  ·have hr : PX.r ⟨t, lo, hi, n, v, i⟩ = true := by simp only [PX.r, e, inR]; rw [if_pos h1, if_pos h2]
   refine LInv.ask_of ⟨rfl, ?_, [], ?_⟩
   ·simp only [inI, hr]
   ·simp only [inI, hr]
    exact wk0 (.cons (.v _) .nil) rfl
  ·simp only [PX.r, e, inR]
   rw [if_pos h1, if_neg h2]
  ·simp only [PX.r, e, inR]
   rw [if_neg h1]
 ·have hr : PX.r ⟨t, lo, hi, n, v, i⟩ = false := by
   have : n - i = 0 := by omega
   simp only [PX.r, this, inR]
  refine LInv.ask_of ⟨rfl, ?_, [], ?_⟩
  ·simp only [inI, hr]
  ·simp only [inI, hr]
   exact wk0 (.cons (.any _) .nil) rfl
theorem in_tree (t : Bool) (lo hi : Nat → Int) (n : Nat) (v : Int) (k : DV → Option Unit) : bodyD Tryz.prog (env [] (lpOf [(26, inI.g)]) 0) Tryz.f130 [.sl t (rowP lo hi) 2 n, kv .i32 v] [] (fun d _ => k d) =
  bif holds (Nat.le n 1000 ∧ ∃ ids, WkP 0 ids [.sl t (fun a a_1 => kv .i32 ((pr lo hi a a_1))) 2 n, kv .i32 v, iv 0] [] [.sl t (fun a a_1 => kv .i32 ((pr (fun i => numD (kv .i32 ((pr lo hi i 0)))) (fun i => numD (kv .i32 ((pr lo hi i 1)))) a a_1))) 2 n, kv .i32 v, iv 0] (LInv.sh inI { t := t, lo := fun i => numD (kv .i32 ((pr lo hi i 0))), hi := fun i => numD (kv .i32 ((pr lo hi i 1))), n := n, v := v, i := 0 }))
  then bif holds (PX.r { t := t, lo := fun i => numD (kv .i32 ((pr lo hi i 0))), hi := fun i => numD (kv .i32 ((pr lo hi i 1))), n := n, v := v, i := 0 } = true) then k (bv true) else k (bv false) else none := by
 kernel_rfl
theorem hF {p : Prop} {x y : Option Unit} (h : ¬ p) (hy : y = some ()) : (bif holds p then x else y) = some () := by
 cases hb : holds p with
 | false => exact hy
 | true => exact (h (holds_eq.1 hb)).elim
/-- Whether a number lies in one of n ranges. -/
def inF (lo hi : Nat → Int) (n : Nat) (v : Int) : Bool := inR lo hi v n 0
theorem in_true (t : Bool) (lo hi : Nat → Int) (n : Nat) (v : Int) (hn : n ≤ 1000) : bodyD Tryz.prog (env [] (lpOf [(26, inI.g)]) 0) Tryz.f130 [.sl t (rowP lo hi) 2 n, kv .i32 v] [] (fun d _ => isD (bv (inF lo hi n v)) d) = some () := by
 refine (in_tree t lo hi n v _).trans (hT ⟨hn, [], wk0 (.cons ?_ (.cons (.v _) (.cons (.v _) .nil))) rfl⟩ ?_)
 ·exact .sl t (rowP lo hi) 2 n
 ·cases hb : inF lo hi n v with
  | true => exact hT hb (isD_of rfl)
  | false => exact hF (fun h => by rw [show inF lo hi n v = true from h] at hb; cases hb) (isD_of rfl)
noncomputable def inC : ConF := fun args k => match args with
 | [.sl _ g 2 n, .v (.int .i32 v)] => bif holds (n ≤ 1000 ∧ ∀ i, i < n → g i 0 = kv .i32 (numD (g i 0)) ∧ g i 1 = kv .i32 (numD (g i 1))) then k (fun _ => (bv (inF (fun i => numD (g i 0)) (fun i => numD (g i 1)) n v), [])) else none
 | _ => none
theorem inC_ok {st : AE.Stat} (hx : ∀ f, exA f = false → ∀ a σ, st.ext f a σ = none) : ConOk Tryz.prog st 130 inC := by
 refine con_flat (mg := []) (l := []) (lp := lpOf [(26, inI.g)]) (n := 0) (glOk st) (fun _ h => nomatch h) Tryz.func130 (by kernel_rfl) (by kernel_rfl) (hx 130 rfl) (lp_one (by kernel_rfl) in_ls) fun args k hk => ?_
 unfold inC at hk
 split at hk <;> first | (cases hk; done) | skip
 rename_i t g n v
 obtain ⟨hb, hk⟩ := bif_none hk
 obtain ⟨hn, hg⟩ := holds_eq.1 hb
 refine ⟨[.sl t (rowP (fun i => numD (g i 0)) (fun i => numD (g i 1))) 2 n, kv .i32 v], _, .cons (fun C μ x hv => ?_) (.self .nil), v_clo _, hk, in_true t _ _ n v hn⟩
 rcases hv.sl_inv with ⟨a, cap, w, rfl, hc, hk0, q1, q2⟩ | ⟨rfl, rfl⟩
 ·refine .sl t _ 2 n a cap w hc hk0 q1 fun i f hi hf => ?_
  have h2 := q2 i f hi hf
  have : f = 0 ∨ f = 1 := by omega
  rcases this with rfl | rfl
  ·rw [(hg i hi).1] at h2
   exact h2
  ·rw [(hg i hi).2] at h2
   exact h2
 ·exact .slnil t _ 2
end Go.Proofs.YtfdldnomelnbgaaGreatDoor

namespace Go.Proofs.YtfdldnomelnbgaaGreatDoor
open Go Go.AE Go.DE Go.RowKit

theorem inR_ext {lo lo' hi hi' : Nat → Int} {v : Int} : ∀ (m i : Nat), (∀ j, i ≤ j → j < i + m → lo j = lo' j ∧ hi j = hi' j) → inR lo hi v m i = inR lo' hi' v m i
 | 0, _, _ => rfl
 | m + 1, i, h => by
  have h0 := h i (Nat.le_refl _) (by omega)
  have e0 : pr lo hi i 0 = pr lo' hi' i 0 := h0.1
  have e1 : pr lo hi i 1 = pr lo' hi' i 1 := h0.2
  rw [inR, inR, e0, e1, inR_ext m (i + 1) fun j h1 h2 => h j (by omega) (by omega)]
theorem inF_ext {lo lo' hi hi' : Nat → Int} {v : Int} {n : Nat} (h : ∀ j, j < n → lo j = lo' j ∧ hi j = hi' j) : inF lo hi n v = inF lo' hi' n v := inR_ext n 0 fun j _ h2 => h j (by omega)
def tabL (L : List (Int × Int)) (i : Nat) : Int := (L.getD i (0, 0)).1
def tabH (L : List (Int × Int)) (i : Nat) : Int := (L.getD i (0, 0)).2
def mkL : List (Int × Int) := [(768, 879), (6832, 6911), (7616, 7679), (8203, 8207), (8400, 8447), (65024, 65039), (65056, 65071)]
def wdL : List (Int × Int) := [(4352, 4447), (11904, 12350), (12353, 13311), (13312, 19903), (19968, 40959), (40960, 42191), (44032, 55203), (63744, 64255), (65072, 65135), (65280, 65376), (65504, 65510), (127744, 128591), (129280, 129535), (131072, 262141)]
def markF (v : Int) : Bool := inF (tabL mkL) (tabH mkL) 7 v
def wideF (v : Int) : Bool := inF (tabL wdL) (tabH wdL) 14 v
/-- The contract of 'in', its answer by a name. -/
noncomputable def inG (J : (Nat → Int) → (Nat → Int) → Nat → Int → Bool) : ConF := fun args k => match args with
 | [.sl _ g 2 n, .v (.int .i32 v)] => bif holds (n ≤ 1000 ∧ ∀ i, i < n → g i 0 = kv .i32 (numD (g i 0)) ∧ g i 1 = kv .i32 (numD (g i 1))) then k (fun _ => (bv (J (fun i => numD (g i 0)) (fun i => numD (g i 1)) n v), [])) else none
 | _ => none
/-- A table of ranges, new. -/
noncomputable def tabC (L : List (Int × Int)) : ConF := fun args k => match args with
 | [] => k (fun s => (.os s 0 L.length, [some ⟨2, .tab L.length (rowP (tabL L) (tabH L))⟩]))
 | _ => none
theorem tab_low (L : List (Int × Int)) (s : Nat) : LowR (.os s 0 L.length, [some (⟨2, .tab L.length (rowP (tabL L) (tabH L))⟩ : DBlk)]) := ⟨.os _ _ _, fun id blk hb i f hi hf => by
 cases id with
 | zero =>
  obtain rfl : (⟨2, .tab L.length (rowP (tabL L) (tabH L))⟩ : DBlk) = blk := by simpa using hb
  exact .v _
 | succ id => simp at hb⟩
theorem mkt_tree (K : DV → DHeap → Option Unit) : bodyD Tryz.prog (env [] noLp 0) Tryz.f131 [] [] (fun d σ => K d σ) =
  K (.os 0 0 7) [some ⟨2, .lst [[kv .i32 768, kv .i32 879], [kv .i32 6832, kv .i32 6911], [kv .i32 7616, kv .i32 7679], [kv .i32 8203, kv .i32 8207], [kv .i32 8400, kv .i32 8447], [kv .i32 65024, kv .i32 65039], [kv .i32 65056, kv .i32 65071]]⟩] := by
 kernel_rfl
theorem wdt_tree (K : DV → DHeap → Option Unit) : bodyD Tryz.prog (env [] noLp 0) Tryz.f132 [] [] (fun d σ => K d σ) =
  K (.os 0 0 14) [some ⟨2, .lst [[kv .i32 4352, kv .i32 4447], [kv .i32 11904, kv .i32 12350], [kv .i32 12353, kv .i32 13311], [kv .i32 13312, kv .i32 19903], [kv .i32 19968, kv .i32 40959], [kv .i32 40960, kv .i32 42191], [kv .i32 44032, kv .i32 55203], [kv .i32 63744, kv .i32 64255], [kv .i32 65072, kv .i32 65135], [kv .i32 65280, kv .i32 65376], [kv .i32 65504, kv .i32 65510], [kv .i32 127744, kv .i32 128591], [kv .i32 129280, kv .i32 129535], [kv .i32 131072, kv .i32 262141]]⟩] := by
 kernel_rfl
theorem mkC_ok {st : AE.Stat} (hx : ∀ f, exA f = false → ∀ a σ, st.ext f a σ = none) : ConOk Tryz.prog st 131 (tabC mkL) := by
 refine con_of (mg := []) (l := []) (lp := noLp) (n := 0) (glOk st) (fun _ h => nomatch h) Tryz.func131 (by kernel_rfl) (by kernel_rfl) (hx 131 rfl) (fun _ _ _ h => nomatch h) fun args k hk => ?_
 unfold tabC at hk
 split at hk <;> first | (cases hk; done) | skip
 refine ⟨[], _, .nil, hk, fun s => ⟨tab_low mkL s, (mkt_tree _).trans (fin_of ?_)⟩⟩
 refine finQ_own (id := 0) rfl rfl rfl (Nat.le_refl 7) trivial fun i f hi hf => ⟨.v _, ?_⟩
 have hf : f = 0 ∨ f = 1 := by omega
 have hi : i = 0 ∨ i = 1 ∨ i = 2 ∨ i = 3 ∨ i = 4 ∨ i = 5 ∨ i = 6 := by have : i < 7 := hi; omega
 rcases hf with rfl | rfl <;> rcases hi with rfl | rfl | rfl | rfl | rfl | rfl | rfl <;> rfl
theorem wdC_ok {st : AE.Stat} (hx : ∀ f, exA f = false → ∀ a σ, st.ext f a σ = none) : ConOk Tryz.prog st 132 (tabC wdL) := by
 refine con_of (mg := []) (l := []) (lp := noLp) (n := 0) (glOk st) (fun _ h => nomatch h) Tryz.func132 (by kernel_rfl) (by kernel_rfl) (hx 132 rfl) (fun _ _ _ h => nomatch h) fun args k hk => ?_
 unfold tabC at hk
 split at hk <;> first | (cases hk; done) | skip
 refine ⟨[], _, .nil, hk, fun s => ⟨tab_low wdL s, (wdt_tree _).trans (fin_of ?_)⟩⟩
 refine finQ_own (id := 0) rfl rfl rfl (Nat.le_refl 14) trivial fun i f hi hf => ⟨.v _, ?_⟩
 have hf : f = 0 ∨ f = 1 := by omega
 have hi : i = 0 ∨ i = 1 ∨ i = 2 ∨ i = 3 ∨ i = 4 ∨ i = 5 ∨ i = 6 ∨ i = 7 ∨ i = 8 ∨ i = 9 ∨ i = 10 ∨ i = 11 ∨ i = 12 ∨ i = 13 := by have : i < 14 := hi; omega
 rcases hf with rfl | rfl <;> rcases hi with rfl | rfl | rfl | rfl | rfl | rfl | rfl | rfl | rfl | rfl | rfl | rfl | rfl | rfl <;> rfl
theorem mark_tree (J : (Nat → Int) → (Nat → Int) → Nat → Int → Bool) (v : Int) (k : DV → Option Unit) : bodyD Tryz.prog (env [(130, inG J), (131, tabC mkL)] noLp 0) Tryz.f106 [kv .i32 v] [] (fun d _ => k d) =
  bif holds (Nat.le 7 1000 ∧ ∀ (i : Nat), i < 7 → kv .i32 ((pr (tabL mkL) (tabH mkL) (0 + i) 0)) = kv .i32 ((numD (kv .i32 ((pr (tabL mkL) (tabH mkL) (0 + i) 0))))) ∧ kv .i32 ((pr (tabL mkL) (tabH mkL) (0 + i) 1)) = kv .i32 ((numD (kv .i32 ((pr (tabL mkL) (tabH mkL) (0 + i) 1))))))
  then k (bv (J (fun i => numD (kv .i32 ((pr (tabL mkL) (tabH mkL) (0 + i) 0)))) (fun i => numD (kv .i32 ((pr (tabL mkL) (tabH mkL) (0 + i) 1)))) 7 v)) else none := by
 kernel_rfl
theorem mark_true (v : Int) : bodyD Tryz.prog (env [(130, inG inF), (131, tabC mkL)] noLp 0) Tryz.f106 [kv .i32 v] [] (fun d _ => isD (bv (markF v)) d) = some () := by
 refine (mark_tree inF v _).trans (hT ⟨by show 7 ≤ 1000; decide, fun i hi => ⟨rfl, rfl⟩⟩ (isD_of ?_))
 refine congrArg (fun b => DV.v (.bool b)) (inF_ext fun i hi => ⟨?_, ?_⟩)
 ·show tabL mkL (0 + i) = _
  rw [Nat.zero_add]
 ·show tabH mkL (0 + i) = _
  rw [Nat.zero_add]
noncomputable def markC (M : Int → Bool) : ConF := fun args k => match args with
 | [.v (.int .i32 v)] => k (fun _ => (bv (M v), []))
 | _ => none
theorem markC_ok {st : AE.Stat} (hx : ∀ f, exA f = false → ∀ a σ, st.ext f a σ = none) : ConOk Tryz.prog st 106 (markC markF) := by
 refine con_flat (mg := []) (l := [(130, inG inF), (131, tabC mkL)]) (lp := noLp) (n := 0) (glOk st) (fun x h => ?_) Tryz.func106 (by kernel_rfl) (by kernel_rfl) (hx 106 rfl) (fun _ _ _ h => nomatch h) fun args k hk => ?_
 ·simp only [List.mem_cons, List.not_mem_nil, or_false] at h
  rcases h with rfl | rfl
  ·exact inC_ok hx
  ·exact mkC_ok hx
 unfold markC at hk
 split at hk <;> first | (cases hk; done) | skip
 rename_i v
 exact ⟨[kv .i32 v], _, .self .nil, v_clo _, hk, mark_true v⟩
noncomputable abbrev wiL (M : Int → Bool) (J : (Nat → Int) → (Nat → Int) → Nat → Int → Bool) : List (FuncId × ConF) := [(106, markC M), (130, inG J), (132, tabC wdL)]
theorem wid_tree (M : Int → Bool) (J : (Nat → Int) → (Nat → Int) → Nat → Int → Bool) (v : Int) (k : DV → Option Unit) : bodyD Tryz.prog (env (wiL M J) noLp 0) Tryz.f107 [kv .i32 v] [] (fun d _ => k d) =
  bif decide (v < 32) then k (iv (-1 : Int)) else bif decide (v ≥ 127) then bif decide (v ≤ 159) then k (iv (-1 : Int)) else bif M v then k (iv 0) else bif holds (Nat.le 14 1000 ∧ ∀ (i : Nat), i < 14 → kv .i32 ((pr (tabL wdL) (tabH wdL) (0 + i) 0)) = kv .i32 ((numD (kv .i32 ((pr (tabL wdL) (tabH wdL) (0 + i) 0))))) ∧ kv .i32 ((pr (tabL wdL) (tabH wdL) (0 + i) 1)) = kv .i32 ((numD (kv .i32 ((pr (tabL wdL) (tabH wdL) (0 + i) 1))))))
  then bif J (fun i => numD (kv .i32 ((pr (tabL wdL) (tabH wdL) (0 + i) 0)))) (fun i => numD (kv .i32 ((pr (tabL wdL) (tabH wdL) (0 + i) 1)))) 14 v then k (iv 2) else k (iv 1) else none else bif M v
  then k (iv 0) else bif holds (Nat.le 14 1000 ∧ ∀ (i : Nat), i < 14 → kv .i32 ((pr (tabL wdL) (tabH wdL) (0 + i) 0)) = kv .i32 ((numD (kv .i32 ((pr (tabL wdL) (tabH wdL) (0 + i) 0))))) ∧ kv .i32 ((pr (tabL wdL) (tabH wdL) (0 + i) 1)) = kv .i32 ((numD (kv .i32 ((pr (tabL wdL) (tabH wdL) (0 + i) 1))))))
  then bif J (fun i => numD (kv .i32 ((pr (tabL wdL) (tabH wdL) (0 + i) 0)))) (fun i => numD (kv .i32 ((pr (tabL wdL) (tabH wdL) (0 + i) 1)))) 14 v then k (iv 2) else k (iv 1) else none := by
 kernel_rfl
/-- The number of cells of a character. -/
def widF (v : Int) : Int := bif decide (v < 32) then -1 else bif decide (v ≥ 127) && decide (v ≤ 159) then -1 else bif markF v then 0 else bif wideF v then 2 else 1
theorem wid_true (v : Int) : bodyD Tryz.prog (env (wiL markF inF) noLp 0) Tryz.f107 [kv .i32 v] [] (fun d _ => isD (iv (widF v)) d) = some () := by
 refine (wid_tree markF inF v _).trans ?_
 have hw : inF (fun i => numD (DV.v (Value.int IntKind.i32 (pr (tabL wdL) (tabH wdL) (0 + i) 0)))) (fun i => numD (DV.v (Value.int IntKind.i32 (pr (tabL wdL) (tabH wdL) (0 + i) 1)))) 14 v = wideF v :=
  inF_ext fun i hi => ⟨by show tabL wdL (0 + i) = _; rw [Nat.zero_add], by show tabH wdL (0 + i) = _; rw [Nat.zero_add]⟩
 rw [hw]
 refine dS (fun a => isD_of ?_) fun a => dS (fun b => dS (fun c => isD_of ?_) fun c => ?_) fun b => ?_
 ·unfold widF; rw [decide_eq_true a]; rfl
 ·unfold widF; rw [decide_eq_false a, decide_eq_true b, decide_eq_true c]; rfl
 all_goals
  refine cS (fun h => isD_of ?_) fun h => hT ⟨by show 14 ≤ 1000; decide, fun i hi => ⟨rfl, rfl⟩⟩ (cS (fun h2 => isD_of ?_) fun h2 => isD_of ?_)
 ·unfold widF; rw [decide_eq_false a, decide_eq_true b, decide_eq_false c, h]; rfl
 ·unfold widF; rw [decide_eq_false a, decide_eq_true b, decide_eq_false c, h, h2]; rfl
 ·unfold widF; rw [decide_eq_false a, decide_eq_true b, decide_eq_false c, h, h2]; rfl
 ·unfold widF; rw [decide_eq_false a, decide_eq_false b, h]; rfl
 ·unfold widF; rw [decide_eq_false a, decide_eq_false b, h, h2]; rfl
 ·unfold widF; rw [decide_eq_false a, decide_eq_false b, h, h2]; rfl
noncomputable def widC (D : Int → Int) : ConF := fun args k => match args with
 | [.v (.int .i32 v)] => k (fun _ => (iv (D v), []))
 | _ => none
theorem widC_ok {st : AE.Stat} (hx : ∀ f, exA f = false → ∀ a σ, st.ext f a σ = none) : ConOk Tryz.prog st 107 (widC widF) := by
 refine con_flat (mg := []) (l := wiL markF inF) (lp := noLp) (n := 0) (glOk st) (fun x h => ?_) Tryz.func107 (by kernel_rfl) (by kernel_rfl) (hx 107 rfl) (fun _ _ _ h => nomatch h) fun args k hk => ?_
 ·simp only [wiL, List.mem_cons, List.not_mem_nil, or_false] at h
  rcases h with rfl | rfl | rfl
  ·exact markC_ok hx
  ·exact inC_ok hx
  ·exact wdC_ok hx
 unfold widC at hk
 split at hk <;> first | (cases hk; done) | skip
 rename_i v
 exact ⟨[kv .i32 v], _, .self .nil, v_clo _, hk, wid_true v⟩
end Go.Proofs.YtfdldnomelnbgaaGreatDoor
