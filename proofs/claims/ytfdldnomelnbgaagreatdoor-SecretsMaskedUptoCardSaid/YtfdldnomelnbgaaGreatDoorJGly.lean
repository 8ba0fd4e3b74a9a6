/-
 The contracts of the comparisons of rows of glyphs.
 Conditions: none beyond those of the contracts.

 The contracts of the copy of glyphs and of Trim.
 Conditions: none beyond those of the contracts.

 The contract of Trim.
 Conditions: none beyond those of the contracts.

 The contract of Style.
 Conditions: none beyond those of the contracts.
-/
import Derived.Test.YtfdldnomelnbgaaGreatDoorJSam
import Derived.Test.YtfdldnomelnbgaaGreatDoorJRws
namespace Go.Proofs.YtfdldnomelnbgaaGreatDoor
open Go Go.AE Go.DE Go.RowKit

/-- A row of glyphs. -/
structure Gl where
 n : Nat
 tx : Nat → ByteArray
 wi : Nat → Bool
 st : Nat → Int
def Gl.cell (r : Gl) (i : Nat) : Nat → DV
 | 0 => sv (r.tx i)
 | 1 => bv (r.wi i)
 | _ => iv (r.st i)
def glOf (g : Nat → Nat → DV) (n : Nat) : Gl := ⟨n, fun i => strD (g i 0), fun i => boolD (g i 1), fun i => numD (g i 2)⟩
def glsOk (g : Nat → Nat → DV) (n : Nat) : Prop := n ≤ 9000000 ∧ ∀ i, i < n → g i 0 = sv (strD (g i 0)) ∧ g i 1 = bv (boolD (g i 1)) ∧ g i 2 = iv (numD (g i 2))
theorem glsOk.cv {g : Nat → Nat → DV} {n : Nat} (h : glsOk g n) (t : Bool) : Cv (.sl t g 3 n) (.sl t (glOf g n).cell 3 n) := Cv.sl fun i f hi hf => by
 obtain ⟨h0, h1, h2⟩ := h.2 i hi
 have : f = 0 ∨ f = 1 ∨ f = 2 := by omega
 rcases this with rfl | rfl | rfl
 ·exact .of h0
 ·exact .of h1
 ·exact .of h2
theorem Gl.ok {r : Gl} (h : r.n ≤ 9000000) : glsOk r.cell r.n := ⟨h, fun i hi => ⟨rfl, rfl, rfl⟩⟩
theorem Gl.clo (r : Gl) (i f : Nat) : Clo (r.cell i f) := by
 match f with
 | 0 => exact .v _
 | 1 => exact .v _
 | _ + 2 => exact .v _
theorem gc_loop (t u : Bool) (r s : Gl) (i : Nat) (K : Ex → Nat → List DV → List DV → Option Unit) : execD Tryz.prog (env [] noLp 0) (loopAt Tryz.f40 58) 500 (temps 26 [0, 1, 12, 13] [.sl t r.cell 3 r.n, .sl u s.cell 3 s.n, iv r.n, iv i]) [] (fun e τ _ => K e τ.length (pick [0, 1, 12, 13] τ) (pick [4] τ)) =
  bif decide ((i : Int) < (r.n : Int)) then bif decide ((i : Int) < (r.n : Int)) then bif decide (tN i < r.n) then bif decide (tN i < r.n) then bif decide (tN i < r.n) then bif decide ((i : Int) < (s.n : Int))
  then bif decide (tN i < s.n) then bif decide (tN i < s.n) then bif decide (tN i < s.n) then bif bif bif r.tx (tN i) == s.tx (tN i) then bif r.wi (tN i) == s.wi (tN i) then bif r.st (tN i) == s.st (tN i)
  then true else false else false else false then false else true then K .ret 26 [.sl t r.cell 3 r.n, .sl u s.cell 3 s.n, iv (r.n : Int), iv (i : Int)] [bv false] else K .normal 26 [.sl t r.cell 3 r.n, .sl u s.cell 3 s.n, iv (r.n : Int), iv (IntKind.wrap .i64 ((i : Int) + 1))] [DV.any]
  else none else none else none else none else none else none else none else none else K (.exit 0) 26 [.sl t r.cell 3 r.n, .sl u s.cell 3 s.n, iv (r.n : Int), iv (i : Int)] [DV.any] := by
 kernel_rfl
def glyB (r s : Gl) (i : Nat) : Bool := bif r.tx i == s.tx i then (bif r.wi i == s.wi i then (bif r.st i == s.st i then true else false) else false) else false
structure ZG where
 t : Bool
 u : Bool
 r : Gl
 s : Gl
 i : Nat
noncomputable def gcI : LInv ZG where
 pre x := x.r.n = x.s.n ∧ x.i ≤ x.r.n ∧ x.r.n ≤ 9000000
 m := 0
 n := 26
 ps := [0, 1, 12, 13]
 sd x := [.sl x.t x.r.cell 3 x.r.n, .sl x.u x.s.cell 3 x.s.n, iv x.r.n, iv x.i]
 sh _ := []
 meas x := x.r.n - x.i
 e x := aE (allF (glyB x.r x.s) (x.r.n - x.i) x.i)
 qs := [4]
 od x := aO (allF (glyB x.r x.s) (x.r.n - x.i) x.i)
 oh _ := []
 guess ds _ := match ds with
  | [.sl t g 3 n, .sl u h 3 m, _, _] => some ⟨t, u, glOf g n, glOf h m, 0⟩
  | _ => none
 cps x k := bif holds (allF (glyB x.r x.s) (x.r.n - x.i) x.i = true) then k (.exit 0) [.any] [] else k .ret [bv false] []
theorem gc_ls {st : AE.Stat} : LoopS Tryz.prog st gl0 (.loop (loopAt Tryz.f40 58)) gcI.g := by
 refine gcI.ok (E := env [] noLp 0) (p := 500) (tblD_env (l := []) fun _ h => nomatch h) (glOk st).1 (fun _ _ _ h => nomatch h) (fun x k h => a_cps h) fun x hx => ?_
 obtain ⟨t, u, r, s, i⟩ := x
 obtain ⟨he, hi, hn⟩ : r.n = s.n ∧ i ≤ r.n ∧ r.n ≤ 9000000 := hx
 have ea : (fun e τ σ => gcI.ask ⟨t, u, r, s, i⟩ e τ.length (pick [0, 1, 12, 13] τ) (pick [4] τ) σ : KD Unit) = fun e τ _ => gcI.ask ⟨t, u, r, s, i⟩ e τ.length (pick [0, 1, 12, 13] τ) (pick [4] τ) [] := by
  funext e τ σ
  exact ask_any rfl (fun _ => rfl) fun _ => rfl
 refine (congrArg (execD Tryz.prog (env [] noLp 0) (loopAt Tryz.f40 58) 500 (temps 26 [0, 1, 12, 13] [.sl t r.cell 3 r.n, .sl u s.cell 3 s.n, iv r.n, iv i]) []) ea).trans ?_
 refine (gc_loop t u r s i fun e n ds es => gcI.ask ⟨t, u, r, s, i⟩ e n ds es []).trans ?_
 simp only [Int.toNat_natCast, Nat.add_zero]
 refine dS (fun hlt => ?_) fun hge => ?_
 ·have hlt : i < r.n := by omega
  have hls : i < s.n := by omega
  have hW : IntKind.i64.wrap ((i : Int) + 1) = ((i + 1 : Nat) : Int) := by rw [W_in (by omega) (by omega)]; omega
  have e1 : r.n - i = (r.n - (i + 1)) + 1 := by omega
  have hq : allF (glyB r s) (r.n - i) i = bif glyB r s i then allF (glyB r s) (r.n - (i + 1)) (i + 1) else false := by rw [e1, allF]
  refine dT (by omega) (dT hlt (dT hlt (dT hlt (dT (by omega) (dT hls (dT hls (dT hls (cS (fun h1 => ?_) fun h1 => ?_))))))))
  ·have h1 : (bif glyB r s i then false else true) = true := h1
   have h1 : glyB r s i = false := by cases h : glyB r s i <;> simp_all
   rw [h1, cond_false] at hq
   refine LInv.ask_of ⟨rfl, ?_, [], ?_⟩
   ·simp only [gcI]; rw [hq]; rfl
   ·simp only [gcI]; rw [hq]; exact wk0 (.cons (.v _) .nil) rfl
  ·have h1 : (bif glyB r s i then false else true) = false := h1
   have h1 : glyB r s i = true := by cases h : glyB r s i <;> simp_all
   rw [h1, cond_true] at hq
   rw [hW]
   exact LInv.ask_of ⟨rfl, ⟨t, u, r, s, i + 1⟩, ⟨by simp only [gcI, hq], by simp only [gcI, hq], rfl, he, hlt, hn⟩, by simp only [gcI]; omega, [], wk0 (.cons (.sl _ _ _ _) (.cons (.sl _ _ _ _) (.cons (.v _) (.cons (.v _) .nil)))) rfl⟩
 ·have e1 : r.n - i = 0 := by omega
  refine LInv.ask_of ⟨rfl, ?_, [], ?_⟩
  ·simp only [gcI, e1]; rfl
  ·simp only [gcI, e1]; exact wk0 (.cons (.any _) .nil) rfl
theorem gc_tree (t u : Bool) (r s : Gl) (k : DV → Option Unit) : bodyD Tryz.prog (env [] (lpOf [(58, gcI.g)]) 0) Tryz.f40 [.sl t r.cell 3 r.n, .sl u s.cell 3 s.n] [] (fun d _ => k d) =
  bif (r.n : Int) != (s.n : Int) then k (bv false) else bif holds ((Gl.n (glOf r.cell r.n) = Gl.n (glOf s.cell s.n) ∧ Nat.le 0 (Gl.n (glOf r.cell r.n)) ∧ Nat.le (Gl.n (glOf r.cell r.n)) 9000000) ∧ ∃ ids, WkP 0 ids [.sl t r.cell 3 r.n, .sl u s.cell 3 s.n, iv (r.n : Int), iv 0] [] [.sl t (Gl.cell (glOf r.cell r.n)) 3 (Gl.n (glOf r.cell r.n)), .sl u (Gl.cell (glOf s.cell s.n)) 3 (Gl.n (glOf s.cell s.n)), iv (↑(Gl.n (glOf r.cell r.n)) : Int), iv 0] (LInv.sh gcI { t := t, u := u, r := glOf r.cell r.n, s := glOf s.cell s.n, i := 0 }))
  then bif holds (allF (glyB (glOf r.cell r.n) (glOf s.cell s.n)) (Gl.n (glOf r.cell r.n) - 0) 0 = true) then k (bv true) else k (bv false) else none := by
 kernel_rfl
/-- Whether two rows are the same. -/
def glyEq (r s : Gl) : Bool := bif (r.n : Int) != (s.n : Int) then false else allF (glyB r s) r.n 0
noncomputable def glC (E : Gl → Gl → Bool) : ConF := fun args k => match args with
 | [.sl _ g 3 n, .sl _ h 3 m] => bif holds (glsOk g n ∧ glsOk h m) then k (fun _ => (bv (E ⟨n, fun j => strD (g j 0), fun j => boolD (g j 1), fun j => numD (g j 2)⟩ ⟨m, fun j => strD (h j 0), fun j => boolD (h j 1), fun j => numD (h j 2)⟩), [])) else none
 | _ => none
theorem gl_true (t u : Bool) (r s : Gl) (hr : r.n ≤ 9000000) : bodyD Tryz.prog (env [] (lpOf [(58, gcI.g)]) 0) Tryz.f40 [.sl t r.cell 3 r.n, .sl u s.cell 3 s.n] [] (fun d _ => isD (bv (glyEq r s)) d) = some () := by
 refine (gc_tree t u r s _).trans ?_
 unfold glyEq
 refine cS (fun h => isD_of (by rw [h]; rfl)) fun h => ?_
 rw [h, cond_false]
 have h : r.n = s.n := by
  have : (r.n : Int) = (s.n : Int) := by simpa using h
  omega
 refine hT ⟨⟨h, Nat.zero_le _, hr⟩, [], wk0 (.cons (.sl _ _ _ _) (.cons (.sl _ _ _ _) (.cons (.v _) (.cons (.v _) .nil)))) rfl⟩ ?_
 by_cases hq : allF (glyB r s) r.n 0 = true
 ·exact hT hq (isD_of (by rw [hq]))
 ·exact hF hq (isD_of (by rw [Bool.eq_false_iff.2 hq]))
theorem glC_ok {st : AE.Stat} (hx : ∀ f, exA f = false → ∀ a σ, st.ext f a σ = none) : ConOk Tryz.prog st 40 (glC glyEq) := by
 refine con_flat (mg := []) (l := []) (lp := lpOf [(58, gcI.g)]) (n := 0) (glOk st) (fun _ h => nomatch h) Tryz.func40 (by kernel_rfl) (by kernel_rfl) (hx 40 rfl) (lp_one (by kernel_rfl) gc_ls) fun args k hk => ?_
 unfold glC at hk
 split at hk <;> first | (cases hk; done) | skip
 rename_i t g n u h m
 obtain ⟨hb, hk⟩ := bif_none hk
 obtain ⟨h1, h2⟩ := holds_eq.1 hb
 exact ⟨[.sl t (glOf g n).cell 3 n, .sl u (glOf h m).cell 3 m], _, .cons (h1.cv t) (.cons (h2.cv u) .nil), v_clo _, hk, gl_true t u (glOf g n) (glOf h m) h1.1⟩
/-! ### Lists of rows of glyphs -/
def glsD (T : Nat → Bool) (R : Nat → Gl) : Nat → Nat → DV := fun i _ => .sl (T i) (R i).cell 3 (R i).n
def glD (d : DV) : Gl := glOf (slG d) (slN d)
def isGl (d : DV) : Prop := d = .sl (slT d) (slG d) 3 (slN d) ∧ glsOk (slG d) (slN d)
theorem isGl_of {T : Bool} {r : Gl} (h : r.n ≤ 9000000) : isGl (.sl T r.cell 3 r.n) := ⟨rfl, Gl.ok h⟩
def glsAll (R : Nat → Gl) (n : Nat) : Prop := n ≤ 9000000 ∧ ∀ i, i < n → (R i).n ≤ 9000000
theorem gls_cv {t : Bool} {G : Nat → Nat → DV} {n : Nat} (h : ∀ i, i < n → isGl (G i 0)) : Cv (.sl t G 1 n) (.sl t (glsD (fun i => slT (G i 0)) fun i => glD (G i 0)) 1 n) := Cv.sl fun i f hi hf => by
 obtain rfl : f = 0 := by omega
 obtain ⟨h1, h2⟩ := h i hi
 rw [h1]
 exact h2.cv _
structure ZH where
 t : Bool
 u : Bool
 T : Nat → Bool
 U : Nat → Bool
 R : Nat → Gl
 S : Nat → Gl
 n : Nat
 i : Nat
def glFn : DV := .fn (.func 40) [] []
noncomputable def egI (E : Gl → Gl → Bool) : LInv ZH where
 pre x := x.i ≤ x.n ∧ glsAll x.R x.n ∧ glsAll x.S x.n
 m := 0
 n := 32
 ps := [1, 2, 15, 16, 17]
 sd x := [.sl x.u (glsD x.U x.S) 1 x.n, glFn, .sl x.t (glsD x.T x.R) 1 x.n, iv x.n, iv x.i]
 sh _ := []
 meas x := x.n - x.i
 e x := aE (allF (fun i => E (x.R i) (x.S i)) (x.n - x.i) x.i)
 qs := [6]
 od x := aO (allF (fun i => E (x.R i) (x.S i)) (x.n - x.i) x.i)
 oh _ := []
 guess ds _ := match ds with
  | [.sl u h 1 _, _, .sl t g 1 n, _, _] => some ⟨t, u, fun i => slT (g i 0), fun i => slT (h i 0), fun i => glD (g i 0), fun i => glD (h i 0), n, 0⟩
  | _ => none
 cps x k := bif holds (allF (fun i => E (x.R i) (x.S i)) (x.n - x.i) x.i = true) then k (.exit 0) [.any] [] else k .ret [bv false] []
theorem eg_loop (E : Gl → Gl → Bool) (t u : Bool) (T U : Nat → Bool) (R S : Nat → Gl) (n i : Nat) (K : Ex → Nat → List DV → List DV → Option Unit) : execD Tryz.prog (env [(40, glC E)] noLp 0) (loopAt Tryz.f39 58) 500 (temps 32 [1, 2, 15, 16, 17] [.sl u (glsD U S) 1 n, glFn, .sl t (glsD T R) 1 n, iv n, iv i]) [] (fun e τ _ => K e τ.length (pick [1, 2, 15, 16, 17] τ) (pick [6] τ)) =
  bif decide ((i : Int) < (n : Int)) then bif decide ((i : Int) < (n : Int)) then bif decide (tN i < n) then bif decide ((i : Int) < (n : Int)) then bif decide (tN i < n) then bif holds ((Nat.le (Gl.n (R (tN i))) 9000000 ∧ ∀ (i_1 : Nat), i_1 < Gl.n (R (tN i)) → sv (Gl.tx (R (tN i)) i_1) = sv (strD (sv (Gl.tx (R (tN i)) i_1))) ∧ bv (Gl.wi (R (tN i)) i_1) = bv (boolD (bv (Gl.wi (R (tN i)) i_1))) ∧ iv (Gl.st (R (tN i)) i_1) = iv (numD (iv (Gl.st (R (tN i)) i_1)))) ∧ Nat.le (Gl.n (S (tN i))) 9000000 ∧ ∀ (i_1 : Nat), i_1 < Gl.n (S (tN i)) → sv (Gl.tx (S (tN i)) i_1) = sv (strD (sv (Gl.tx (S (tN i)) i_1))) ∧ bv (Gl.wi (S (tN i)) i_1) = bv (boolD (bv (Gl.wi (S (tN i)) i_1))) ∧ iv (Gl.st (S (tN i)) i_1) = iv (numD (iv (Gl.st (S (tN i)) i_1))))
  then bif !E { n := Gl.n (R (tN i)), tx := fun j => strD (sv (Gl.tx (R (tN i)) j)), wi := fun j => boolD (bv (Gl.wi (R (tN i)) j)), st := fun j => numD (iv (Gl.st (R (tN i)) j)) } { n := Gl.n (S (tN i)), tx := fun j => strD (sv (Gl.tx (S (tN i)) j)), wi := fun j => boolD (bv (Gl.wi (S (tN i)) j)), st := fun j => numD (iv (Gl.st (S (tN i)) j)) }
  then K .ret 32 [.sl u (fun a a_1 => DV.sl (U a) (Gl.cell (S a)) 3 (Gl.n (S a))) 1 n, .fn (Fn.func 40) [] [], .sl t (fun a a_1 => DV.sl (T a) (Gl.cell (R a)) 3 (Gl.n (R a))) 1 n, iv (n : Int), iv (i : Int)] [bv false]
  else K .normal 32 [.sl u (fun a a_1 => DV.sl (U a) (Gl.cell (S a)) 3 (Gl.n (S a))) 1 n, .fn (Fn.func 40) [] [], .sl t (fun a a_1 => DV.sl (T a) (Gl.cell (R a)) 3 (Gl.n (R a))) 1 n, iv (n : Int), iv (IntKind.wrap .i64 ((i : Int) + 1))] [DV.any]
  else none else none else none else none else none else K (.exit 0) 32 [.sl u (fun a a_1 => DV.sl (U a) (Gl.cell (S a)) 3 (Gl.n (S a))) 1 n, .fn (Fn.func 40) [] [], .sl t (fun a a_1 => DV.sl (T a) (Gl.cell (R a)) 3 (Gl.n (R a))) 1 n, iv (n : Int), iv (i : Int)] [DV.any] := by
 kernel_rfl
theorem glFn_clo : Clo glFn := fun C μ μ' x hx => by
 cases hx with
 | fn _ _ _ u v h1 h2 h3 h4 => exact .fn _ _ _ u v h1 h2 (fun i d x' hd => by simp at hd) fun i d x' hd => by simp at hd
theorem eg_ls {st : AE.Stat} (hx : ∀ f, exA f = false → ∀ a σ, st.ext f a σ = none) : LoopS Tryz.prog st gl0 (.loop (loopAt Tryz.f39 58)) (egI glyEq).g := by
 refine (egI glyEq).ok (E := env [(40, glC glyEq)] noLp 0) (p := 500) (tblD_env (l := [(40, glC glyEq)]) fun x h => ?_) (glOk st).1 (fun _ _ _ h => nomatch h) (fun x k h => a_cps h) fun x hx => ?_
 ·simp only [List.mem_cons, List.not_mem_nil, or_false] at h
  subst h
  exact glC_ok hx
 obtain ⟨t, u, T, U, R, S, n, i⟩ := x
 obtain ⟨hi, hR, hS⟩ : i ≤ n ∧ glsAll R n ∧ glsAll S n := hx
 have hn := hR.1
 have ea : (fun e τ σ => (egI glyEq).ask ⟨t, u, T, U, R, S, n, i⟩ e τ.length (pick [1, 2, 15, 16, 17] τ) (pick [6] τ) σ : KD Unit) = fun e τ _ => (egI glyEq).ask ⟨t, u, T, U, R, S, n, i⟩ e τ.length (pick [1, 2, 15, 16, 17] τ) (pick [6] τ) [] := by
  funext e τ σ
  exact ask_any rfl (fun _ => rfl) fun _ => rfl
 refine (congrArg (execD Tryz.prog (env [(40, glC glyEq)] noLp 0) (loopAt Tryz.f39 58) 500 (temps 32 [1, 2, 15, 16, 17] [.sl u (glsD U S) 1 n, glFn, .sl t (glsD T R) 1 n, iv n, iv i]) []) ea).trans ?_
 refine (eg_loop glyEq t u T U R S n i fun e n' ds es => (egI glyEq).ask ⟨t, u, T, U, R, S, n, i⟩ e n' ds es []).trans ?_
 simp only [Int.toNat_natCast, Nat.add_zero]
 refine dS (fun hlt => ?_) fun hge => ?_
 ·have hlt : i < n := by omega
  have hW : IntKind.i64.wrap ((i : Int) + 1) = ((i + 1 : Nat) : Int) := by rw [W_in (by omega) (by omega)]; omega
  have e1 : n - i = (n - (i + 1)) + 1 := by omega
  have hq : allF (fun i => glyEq (R i) (S i)) (n - i) i = bif glyEq (R i) (S i) then allF (fun i => glyEq (R i) (S i)) (n - (i + 1)) (i + 1) else false := by rw [e1, allF]
  refine dT (by omega) (dT hlt (dT (by omega) (dT hlt (hT ⟨Gl.ok (hR.2 i hlt), Gl.ok (hS.2 i hlt)⟩ (cS (fun h1 => ?_) fun h1 => ?_)))))
  ·have h1 : (!glyEq (R i) (S i)) = true := h1
   have h1 : glyEq (R i) (S i) = false := by simpa using h1
   rw [h1, cond_false] at hq
   refine LInv.ask_of ⟨rfl, ?_, [], ?_⟩
   ·simp only [egI]; rw [hq]; rfl
   ·simp only [egI]; rw [hq]; exact wk0 (.cons (.v _) .nil) rfl
  ·have h1 : (!glyEq (R i) (S i)) = false := h1
   have h1 : glyEq (R i) (S i) = true := by simpa using h1
   rw [h1, cond_true] at hq
   rw [hW]
   exact LInv.ask_of ⟨rfl, ⟨t, u, T, U, R, S, n, i + 1⟩, ⟨by simp only [egI, hq], by simp only [egI, hq], rfl, hlt, hR, hS⟩, by simp only [egI]; omega, [], wk0 (.cons (.sl _ _ _ _) (.cons (.of_clo glFn_clo) (.cons (.sl _ _ _ _) (.cons (.v _) (.cons (.v _) .nil))))) rfl⟩
 ·have e1 : n - i = 0 := by omega
  refine LInv.ask_of ⟨rfl, ?_, [], ?_⟩
  ·simp only [egI, e1]; rfl
  ·simp only [egI, e1]; exact wk0 (.cons (.any _) .nil) rfl
theorem eg_tree (E : Gl → Gl → Bool) (t u : Bool) (T U : Nat → Bool) (R S : Nat → Gl) (n m : Nat) (k : DV → Option Unit) : bodyD Tryz.prog (env [(40, glC E)] (lpOf [(58, (egI E).g)]) 0) Tryz.f39 [.sl t (glsD T R) 1 n, .sl u (glsD U S) 1 m, glFn] [] (fun d _ => k d) =
  bif (n : Int) != (m : Int) then k (bv false) else bif holds ((Nat.le 0 n ∧ (Nat.le n 9000000 ∧ ∀ (i : Nat), i < n → Nat.le (Gl.n ((fun i => glD (.sl (T i) (Gl.cell (R i)) 3 (Gl.n (R i)))) i)) 9000000) ∧ Nat.le n 9000000 ∧ ∀ (i : Nat), i < n → Nat.le (Gl.n ((fun i => glD (.sl (U i) (Gl.cell (S i)) 3 (Gl.n (S i)))) i)) 9000000) ∧ ∃ ids, WkP (LInv.m (egI E)) ids [.sl u (fun a a_1 => DV.sl (U a) (Gl.cell (S a)) 3 (Gl.n (S a))) 1 m, .fn (Fn.func 40) [] [], .sl t (fun a a_1 => DV.sl (T a) (Gl.cell (R a)) 3 (Gl.n (R a))) 1 n, iv (n : Int), iv 0] [] [.sl u (fun a a_1 => DV.sl ((fun i => slT (.sl (U i) (Gl.cell (S i)) 3 (Gl.n (S i)))) a) (Gl.cell ((fun i => glD (.sl (U i) (Gl.cell (S i)) 3 (Gl.n (S i)))) a)) 3 (Gl.n ((fun i => glD (.sl (U i) (Gl.cell (S i)) 3 (Gl.n (S i)))) a))) 1 n, .fn (Fn.func 40) [] [], .sl t (fun a a_1 => DV.sl ((fun i => slT (.sl (T i) (Gl.cell (R i)) 3 (Gl.n (R i)))) a) (Gl.cell ((fun i => glD (.sl (T i) (Gl.cell (R i)) 3 (Gl.n (R i)))) a)) 3 (Gl.n ((fun i => glD (.sl (T i) (Gl.cell (R i)) 3 (Gl.n (R i)))) a))) 1 n, iv (n : Int), iv 0] (LInv.sh (egI E) { t := t, u := u, T := fun i => slT (.sl (T i) (Gl.cell (R i)) 3 (Gl.n (R i))), U := fun i => slT (.sl (U i) (Gl.cell (S i)) 3 (Gl.n (S i))), R := fun i => glD (.sl (T i) (Gl.cell (R i)) 3 (Gl.n (R i))), S := fun i => glD (.sl (U i) (Gl.cell (S i)) 3 (Gl.n (S i))), n := n, i := 0 }))
  then bif holds (allF (fun i => E ((fun i => glD (.sl (T i) (Gl.cell (R i)) 3 (Gl.n (R i)))) i) ((fun i => glD (.sl (U i) (Gl.cell (S i)) 3 (Gl.n (S i)))) i)) (n - 0) 0 = true) then k (bv true) else k (bv false)
  else none := by
 kernel_rfl
/-- Whether two lists of rows are the same. -/
def glsEq (R : Nat → Gl) (n : Nat) (S : Nat → Gl) (m : Nat) : Bool := bif (n : Int) != (m : Int) then false else allF (fun i => glyEq (R i) (S i)) n 0
theorem eg_true (t u : Bool) (T U : Nat → Bool) (R S : Nat → Gl) (n m : Nat) (hR : glsAll R n) (hS : glsAll S m) : bodyD Tryz.prog (env [(40, glC glyEq)] (lpOf [(58, (egI glyEq).g)]) 0) Tryz.f39 [.sl t (glsD T R) 1 n, .sl u (glsD U S) 1 m, glFn] [] (fun d _ => isD (bv (glsEq R n S m)) d) = some () := by
 refine (eg_tree glyEq t u T U R S n m _).trans ?_
 unfold glsEq
 refine cS (fun h => isD_of (by rw [h]; rfl)) fun h => ?_
 rw [h, cond_false]
 obtain rfl : n = m := by
  have : (n : Int) = (m : Int) := by simpa using h
  omega
 refine hT ⟨⟨Nat.zero_le _, hR, hS⟩, [], wk0 (.cons (.sl _ _ _ _) (.cons (.of_clo glFn_clo) (.cons (.sl _ _ _ _) (.cons (.v _) (.cons (.v _) .nil))))) rfl⟩ ?_
 by_cases hq : allF (fun i => glyEq (R i) (S i)) n 0 = true
 ·exact hT hq (isD_of (by rw [hq]))
 ·exact hF hq (isD_of (by rw [Bool.eq_false_iff.2 hq]))
/-- Rows, as a callee may see them. -/
def glsHere (G : Nat → Nat → DV) (n : Nat) : Prop := n ≤ 9000000 ∧ ∀ i, i < n → isGl (G i 0)
noncomputable def egC (Q : (Nat → Nat → DV) → Nat → Prop) (E : (Nat → Gl) → Nat → (Nat → Gl) → Nat → Bool) : ConF := fun args k => match args with
 | [.sl _ G 1 n, .sl _ H 1 m, .fn (.func 40) [] []] => bif holds (Q G n ∧ Q H m) then k (fun _ => (bv (E (fun i => glD (G i 0)) n (fun i => glD (H i 0)) m), [])) else none
 | _ => none
theorem egC_ok {st : AE.Stat} (hx : ∀ f, exA f = false → ∀ a σ, st.ext f a σ = none) : ConOk Tryz.prog st 39 (egC glsHere glsEq) := by
 refine con_flat (mg := []) (l := [(40, glC glyEq)]) (lp := lpOf [(58, (egI glyEq).g)]) (n := 0) (glOk st) (fun x h => ?_) Tryz.func39 (by kernel_rfl) (by kernel_rfl) (hx 39 rfl) (lp_one (by kernel_rfl) (eg_ls hx)) fun args k hk => ?_
 ·simp only [List.mem_cons, List.not_mem_nil, or_false] at h
  subst h
  exact glC_ok hx
 unfold egC at hk
 split at hk <;> first | (cases hk; done) | skip
 rename_i t G n u H m
 obtain ⟨hb, hk⟩ := bif_none hk
 obtain ⟨h1, h2⟩ := holds_eq.1 hb
 exact ⟨[.sl t (glsD (fun i => slT (G i 0)) fun i => glD (G i 0)) 1 n, .sl u (glsD (fun i => slT (H i 0)) fun i => glD (H i 0)) 1 m, glFn], _, .cons (gls_cv h1.2) (.cons (gls_cv h2.2) (.self .nil)), v_clo _, hk,
  eg_true t u _ _ _ _ n m ⟨h1.1, fun i hi => (h1.2 i hi).2.1⟩ ⟨h2.1, fun i hi => (h2.2 i hi).2.1⟩⟩
/-! ### view.Equal -/
theorem ve_tree (Q : (Nat → Nat → DV) → Nat → Prop) (E : (Nat → Gl) → Nat → (Nat → Gl) → Nat → Bool) (a b c d : Int) (e : Bool) (a' b' c' d' : Int) (e' : Bool) (t u : Bool) (T U : Nat → Bool) (R S : Nat → Gl) (n m : Nat) (k : DV → Option Unit) : bodyD Tryz.prog (env [(39, egC Q E)] noLp 0) Tryz.f11 [.agg [iv a, iv b, .sl t (glsD T R) 1 n, iv c, iv d, bv e], .agg [iv a', iv b', .sl u (glsD U S) 1 m, iv c', iv d', bv e']] [] (fun d _ => k d) =
  bif a == a' then bif b == b' then bif c == c' then bif d == d' then bif e == e' then bif holds (Q (glsD T R) n ∧ Q (glsD U S) m) then k (bv (E (fun i => glD (.sl (T i) (Gl.cell (R i)) 3 (Gl.n (R i)))) n (fun i => glD (.sl (U i) (Gl.cell (S i)) 3 (Gl.n (S i)))) m))
  else none else k (bv false) else k (bv false) else k (bv false) else k (bv false) else k (bv false) := by
 kernel_rfl
noncomputable def veC (Q : (Nat → Nat → DV) → Nat → Prop) (E : (Nat → Gl) → Nat → (Nat → Gl) → Nat → Bool) : ConF := fun args k => match args with
 | [.agg [.v (.int .i64 a), .v (.int .i64 b), .sl _ G 1 n, .v (.int .i64 c), .v (.int .i64 d), .v (.bool e)], .agg [.v (.int .i64 a'), .v (.int .i64 b'), .sl _ H 1 m, .v (.int .i64 c'), .v (.int .i64 d'), .v (.bool e')]] =>
  bif holds (Q G n ∧ Q H m) then k (fun _ => (bv (bif a == a' then (bif b == b' then (bif c == c' then (bif d == d' then (bif e == e' then E (fun i => glD (G i 0)) n (fun i => glD (H i 0)) m else false) else false) else false) else false) else false), [])) else none
 | _ => none
theorem gls_here {T : Nat → Bool} {R : Nat → Gl} {n : Nat} (h : glsAll R n) : glsHere (glsD T R) n := ⟨h.1, fun i hi => isGl_of (h.2 i hi)⟩
theorem veC_ok {st : AE.Stat} (hx : ∀ f, exA f = false → ∀ a σ, st.ext f a σ = none) : ConOk Tryz.prog st 11 (veC glsHere glsEq) := by
 refine con_flat (mg := []) (l := [(39, egC glsHere glsEq)]) (lp := noLp) (n := 0) (glOk st) (fun x h => ?_) Tryz.func11 (by kernel_rfl) (by kernel_rfl) (hx 11 rfl) (fun _ _ _ h => nomatch h) fun args k hk => ?_
 ·simp only [List.mem_cons, List.not_mem_nil, or_false] at h
  subst h
  exact egC_ok hx
 unfold veC at hk
 split at hk <;> first | (cases hk; done) | skip
 rename_i a b t G n c d e a' b' u H m c' d' e'
 obtain ⟨hb, hk⟩ := bif_none hk
 obtain ⟨h1, h2⟩ := holds_eq.1 hb
 refine ⟨[.agg [iv a, iv b, .sl t (glsD (fun i => slT (G i 0)) fun i => glD (G i 0)) 1 n, iv c, iv d, bv e], .agg [iv a', iv b', .sl u (glsD (fun i => slT (H i 0)) fun i => glD (H i 0)) 1 m, iv c', iv d', bv e']], _, .cons (Cv.agg (.self (.self (.cons (gls_cv h1.2) (.self (.self (.self .nil))))))) (.cons (Cv.agg (.self (.self (.cons (gls_cv h2.2) (.self (.self (.self .nil))))))) .nil), v_clo _, hk, ?_⟩
 refine (ve_tree glsHere glsEq a b c d e a' b' c' d' e' t u _ _ _ _ n m _).trans (cS (fun q1 => cS (fun q2 => cS (fun q3 => cS (fun q4 => cS (fun q5 => hT ⟨gls_here ⟨h1.1, fun i hi => (h1.2 i hi).2.1⟩, gls_here ⟨h2.1, fun i hi => (h2.2 i hi).2.1⟩⟩ (isD_of ?_)) fun q5 => isD_of ?_) fun q4 => isD_of ?_) fun q3 => isD_of ?_) fun q2 => isD_of ?_) fun q1 => isD_of ?_)
 ·rw [q1, q2, q3, q4, q5]; rfl
 ·rw [q1, q2, q3, q4, q5]; rfl
 ·rw [q1, q2, q3, q4]; rfl
 ·rw [q1, q2, q3]; rfl
 ·rw [q1, q2]; rfl
 ·rw [q1]; rfl
end Go.Proofs.YtfdldnomelnbgaaGreatDoor

namespace Go.Proofs.YtfdldnomelnbgaaGreatDoor
open Go Go.AE Go.DE Go.RowKit

theorem cg_tree (t : Bool) (r : Gl) (K : DV → DHeap → Option Unit) : bodyD Tryz.prog (envZ [] noLp 0) Tryz.f77 [.sl t r.cell 3 r.n] [] (fun d σ => K d σ) =
  bif decide (0 < r.n) then bif decide ((0 + r.n) * 32 ≤ 140737488355328) then K (.os 1 0 (0 + r.n)) [none, some ⟨3, .app (.pre (.lst []) 0) (.tab r.n r.cell)⟩] else none else none := by
 kernel_rfl
theorem cg_nil (st : AE.Stat) (rf : CallA) (σ : Heap) (n : Nat) : bodyA Tryz.prog st rf n Tryz.f77 [.slice none 0 0] σ = some (.slice none 0 0, σ) := by kernel_rfl
theorem cg_emp (st : AE.Stat) (rf : CallA) (σ : Heap) (a : Addr) (cap n : Nat) : bodyA Tryz.prog st rf n Tryz.f77 [.slice (some a) 0 cap] σ = some (.slice (some ⟨σ.length, 0, none⟩) 0 0, σ ++ [some (.cells [])]) := by kernel_rfl
theorem st_more {st : AE.Stat} {C : Cf} {σ : Heap} (h : St st C noMu σ []) (ex : List (Option Blk)) (s : Nat) : St st C noMu (σ ++ ex) (List.replicate s none ++ []) :=

 ⟨fun t b s o v q => cellA_append (h.frz t b s o v q), fun id blk hb => (by have := (repl_get.1 hb).2; simp at this), fun id blk b x hb => (by have := (repl_get.1 hb).2; simp at this), fun id id' blk blk' b x x' hb => (by have := (repl_get.1 hb).2; simp at this),
  fun id x hx => (by cases hx), fun t b o v q => (by have := h.low t b o v q; rw [List.length_append]; omega), h.sta⟩
/-- The copy of no glyphs. -/
noncomputable def cg0 : ConF := fun args k => match args with
 | [.sl _ g 3 0] => k (fun _ => (.sl false (glOf g 0).cell 3 0, []))
 | _ => none
theorem gl_low (r : Gl) (i f : Nat) : Low (r.cell i f) := by
 match f with
 | 0 => exact .v _
 | 1 => exact .v _
 | _ + 2 => exact .v _
theorem cg0_ok {st : AE.Stat} (hx : ∀ f, exA f = false → ∀ a σ, st.ext f a σ = none) : ConOkZ true Tryz.prog st 77 cg0 := by
 intro args k hk s C σ vs hS ha
 unfold cg0 at hk
 split at hk <;> first | (cases hk; done) | skip
 rename_i t g
 obtain ⟨v, ys, rfl, hv, hn⟩ := ha.cons_inv
 obtain rfl := hn.nil_inv
 have ent : ∀ n m, 1 ≤ m → enterA Tryz.prog (runF Tryz.prog st n m) 77 [v] σ = bodyA Tryz.prog st (runF Tryz.prog st n (m - 1)) n Tryz.f77 [v] σ := fun n m hm => by
  obtain ⟨m, rfl⟩ : ∃ m', m = m' + 1 := ⟨m - 1, by omega⟩
  have h1 : (Tryz.f77.name == "runtime.NumGoroutine") = false := by kernel_rfl
  have h2 : Tryz.f77.body.isNone = false := by kernel_rfl
  unfold enterA
  rw [Tryz.func77]
  simp only [h1, h2, Bool.false_eq_true, if_false, runF, Tryz.func77, hx 77 rfl]
  rfl
 have nolive : ∀ b, ¬ Live noMu (List.replicate s none ++ ([] : DHeap)) b := by
  rintro b ⟨id, blk, x, hb, _⟩
  have := (repl_get.1 hb).2
  simp at this
 have low : LowR ((.sl false (glOf g 0).cell 3 0 : DV), ([] : DHeap)) := lowR_flat (.sl fun i f _ _ => gl_low _ _ _)
 rcases hv.sl_inv with ⟨a, cap, w, rfl, hc, hk0, q1, q2⟩ | ⟨_, rfl⟩
 ·refine ⟨_, hk, low, _, _, C, noMu, ⟨1, fun n m _ hm => (ent n m hm).trans (cg_emp st _ σ a cap n)⟩, st_more hS _ s, ?_, fun id x hx => (by cases hx), ?_, fun b hb => ?_, fun b hl => (nolive b hl).elim, fun b s o v hv => .inl hv⟩
  ·exact .sl false _ 3 0 ⟨σ.length, 0, none⟩ 0 (fun _ _ => undef) (.inl ⟨by decide, Nat.le_refl _⟩) (by decide) (fun i f hi _ => absurd hi (Nat.not_lt_zero _)) fun i f hi _ => absurd hi (Nat.not_lt_zero _)
  ·rw [List.length_append]; omega
  ·exact List.getElem?_append_left hb
 ·have h0 := st_more hS [] s
  rw [List.append_nil] at h0
  exact ⟨_, hk, low, _, _, C, noMu, ⟨1, fun n m _ hm => (ent n m hm).trans (cg_nil st _ σ n)⟩, h0, .slnil _ _ _, fun id x hx => (by cases hx), Nat.le_refl _, fun b hb => rfl, fun b hl => (nolive b hl).elim, fun b s o v hv => .inl hv⟩
noncomputable def cgC (Q : (Nat → Nat → DV) → Nat → Prop) : ConF := fun args k => match args with
 | [.sl _ g 3 n] => bif holds (Q g n) then k (fun _ => (.sl false (Gl.cell ⟨n, fun i => strD (g i 0), fun i => boolD (g i 1), fun i => numD (g i 2)⟩) 3 n, [])) else none
 | _ => none
theorem cgC_ok {st : AE.Stat} (hx : ∀ f, exA f = false → ∀ a σ, st.ext f a σ = none) : ConOkZ true Tryz.prog st 77 (cgC glsOk) := fun args k hk => by
 unfold cgC at hk
 split at hk <;> first | (cases hk; done) | skip
 rename_i t g n
 obtain ⟨hb, hk⟩ := bif_none hk
 have hb := holds_eq.1 hb
 rcases Nat.eq_zero_or_pos n with rfl | hp
 ·exact cg0_ok hx [.sl t g 3 0] k hk
 refine con_frz (F := fun a k' => bif holds (a = [.sl t g 3 n]) then k' (fun _ => (.sl false (glOf g n).cell 3 n, [])) else none) (E := envZ [] noLp 0) rfl (glOk st) (tblD_env (l := []) fun _ h => nomatch h) Tryz.func77 (by kernel_rfl) (by kernel_rfl) (hx 77 rfl) (fun _ _ _ h => nomatch h) (fun args k hk => ?_) _ k (hT rfl hk)
 obtain ⟨e, hk2⟩ := bif_none hk
 obtain rfl := holds_eq.1 e
 have hn := hb.1
 refine ⟨[.sl t (glOf g n).cell 3 n], _, .cons (hb.cv t) .nil, .sl fun i f _ _ => gl_low _ _ _, hk2, ?_⟩
 refine (cg_tree t (glOf g n) _).trans (dT hp ?_)
 have hz : 0 + (glOf g n).n = n := Nat.zero_add _
 rw [hz]
 refine dT (by omega) (fzq_of ⟨[1], ?_, fun j hj blk hb i f _ _ => ?_⟩)
 ·refine SubZ.fz0 (c := .app (.pre (.lst []) 0) (.tab n (glOf g n).cell)) rfl (by show n ≤ 0 + n; omega) fun i f => ?_
  show (if i < 0 then _ else (glOf g n).cell (i - 0) f) = _
  rw [if_neg (Nat.not_lt_zero _)]; rfl
 ·obtain rfl : j = 1 := by simpa using hj
  obtain rfl : (⟨3, .app (.pre (.lst []) 0) (.tab n (glOf g n).cell)⟩ : DBlk) = blk := Option.some.inj (Option.some.inj hb)
  show Clo (if i < 0 then _ else (glOf g n).cell (i - 0) f)
  rw [if_neg (Nat.not_lt_zero _)]
  exact Gl.clo _ _ _
end Go.Proofs.YtfdldnomelnbgaaGreatDoor

namespace Go.Proofs.YtfdldnomelnbgaaGreatDoor
open Go Go.AE Go.DE Go.RowKit

noncomputable def blC : ConF := fun args k => match args with
 | [] => k (fun _ => (.agg [sv ⟨#[32]⟩, bv false, iv 0], []))
 | _ => none
theorem bl_tree (k : DV → Option Unit) : bodyD Tryz.prog (env [] noLp 0) Tryz.f76 [] [] (fun d _ => k d) =
  k (.agg [sv ({ data := #[(32 : UInt8)] }), bv false, iv 0]) := by
 kernel_rfl
theorem tr_loop (t : Bool) (r : Gl) (i : Nat) (K : Ex → Nat → List DV → List DV → Option Unit) : execD Tryz.prog (envZ [(76, blC)] noLp 0) (loopAt Tryz.f42 28) 500 (temps 23 [0, 3] [.sl t r.cell 3 r.n, iv i]) [] (fun e τ _ => K e τ.length (pick [0, 3] τ) (pick [0, 3] τ)) =
  bif decide ((i : Int) > 0) then bif decide (0 ≤ IntKind.wrap .i64 ((i : Int) - 1)) then bif decide (IntKind.wrap .i64 ((i : Int) - 1) < (r.n : Int)) then bif decide (Int.toNat (IntKind.wrap .i64 ((i : Int) - 1)) + 0 < r.n)
  then bif decide (Int.toNat (IntKind.wrap .i64 ((i : Int) - 1)) + 0 < r.n) then bif decide (Int.toNat (IntKind.wrap .i64 ((i : Int) - 1)) + 0 < r.n) then bif bif r.tx (Int.toNat (IntKind.wrap .i64 ((i : Int) - 1)) + 0) == { data := #[(32 : UInt8)] }
  then bif r.wi (Int.toNat (IntKind.wrap .i64 ((i : Int) - 1)) + 0) == false then bif r.st (Int.toNat (IntKind.wrap .i64 ((i : Int) - 1)) + 0) == 0 then true else false else false else false then K .normal 23 [.sl t r.cell 3 r.n, iv (IntKind.wrap .i64 ((i : Int) - 1))] [.sl t r.cell 3 r.n, iv (IntKind.wrap .i64 ((i : Int) - 1))]
  else K (.exit 0) 23 [.sl t r.cell 3 r.n, iv (i : Int)] [.sl t r.cell 3 r.n, iv (i : Int)] else none else none else none else none else none else K (.exit 0) 23 [.sl t r.cell 3 r.n, iv (i : Int)] [.sl t r.cell 3 r.n, iv (i : Int)] := by
 kernel_rfl
theorem blC_ok {st : AE.Stat} (hx : ∀ f, exA f = false → ∀ a σ, st.ext f a σ = none) : ConOk Tryz.prog st 76 blC := by
 refine con_flat (mg := []) (l := []) (lp := noLp) (n := 0) (glOk st) (fun _ h => nomatch h) Tryz.func76 (by kernel_rfl) (by kernel_rfl) (hx 76 rfl) (fun _ _ _ h => nomatch h) fun args k hk => ?_
 unfold blC at hk
 split at hk <;> first | (cases hk; done) | skip
 refine ⟨[], _, .nil, ⟨Clo.agg fun d hd => ?_, fun C C' μ x hC hy => ?_⟩, hk, (bl_tree _).trans (isD_of rfl)⟩
 ·simp only [List.mem_cons, List.not_mem_nil, or_false] at hd
  rcases hd with rfl | rfl | rfl <;> exact .v _
 ·cases hy with
  | agg _ vs h1 h2 =>
   refine .agg _ vs h1 fun i d x hd hx => ?_
   ·have hm := List.mem_of_getElem? hd
    simp only [List.mem_cons, List.not_mem_nil, or_false] at hm
    have hx := h2 i d x hd hx
    rcases hm with rfl | rfl | rfl <;> exact Low.v _ _ _ _ _ hC hx
/-- Whether a glyph is a blank. -/
def blank (r : Gl) (i : Nat) : Bool := bif r.tx i == ⟨#[32]⟩ then (bif r.wi i == false then (bif r.st i == 0 then true else false) else false) else false
/-- The glyphs without the blanks behind them. -/
def trimN (r : Gl) : Nat → Nat
 | 0 => 0
 | n + 1 => bif blank r n then trimN r n else n + 1
theorem trimN_le (r : Gl) : ∀ n, trimN r n ≤ n
 | 0 => Nat.le_refl _
 | n + 1 => by
  rw [trimN]
  cases blank r n with
  | true => exact Nat.le_trans (trimN_le r n) (Nat.le_succ _)
  | false => exact Nat.le_refl _
structure ZT where
 t : Bool
 r : Gl
 i : Nat
noncomputable def trI : LInv ZT where
 pre x := x.i ≤ x.r.n ∧ x.r.n ≤ 9000000
 m := 0
 n := 23
 ps := [0, 3]
 sd x := [.sl x.t x.r.cell 3 x.r.n, iv x.i]
 sh _ := []
 meas x := x.i
 e _ := .exit 0
 qs := [0, 3]
 od x := [.sl x.t x.r.cell 3 x.r.n, iv (trimN x.r x.i)]
 oh _ := []
 guess ds _ := match ds with
  | [.sl t g 3 n, .v (.int _ i)] => some ⟨t, glOf g n, i.toNat⟩
  | _ => none
 cps x k := k (.exit 0) [.sl x.t x.r.cell 3 x.r.n, iv (trimN x.r x.i)] []
theorem tr_ls {st : AE.Stat} (hx : ∀ f, exA f = false → ∀ a σ, st.ext f a σ = none) : LoopSR true Tryz.prog st gl0 (.loop (loopAt Tryz.f42 28)) trI.g := by
 refine trI.ok (E := envZ [(76, blC)] noLp 0) (p := 500) (tblD_env (l := [(76, blC)]) fun x h => ?_) (glOk st).1 (fun _ _ _ h => nomatch h) (fun x k h => h) fun x hx => ?_
 ·simp only [List.mem_cons, List.not_mem_nil, or_false] at h
  subst h
  exact (blC_ok hx).z
 obtain ⟨t, r, i⟩ := x
 obtain ⟨hi, hn⟩ : i ≤ r.n ∧ r.n ≤ 9000000 := hx
 have ea : (fun e τ σ => trI.ask ⟨t, r, i⟩ e τ.length (pick [0, 3] τ) (pick [0, 3] τ) σ : KD Unit) = fun e τ _ => trI.ask ⟨t, r, i⟩ e τ.length (pick [0, 3] τ) (pick [0, 3] τ) [] := by
  funext e τ σ
  exact ask_any rfl (fun _ => rfl) fun _ => rfl
 refine (congrArg (execD Tryz.prog (envZ [(76, blC)] noLp 0) (loopAt Tryz.f42 28) 500 (temps 23 [0, 3] [.sl t r.cell 3 r.n, iv i]) []) ea).trans ?_
 refine (tr_loop t r i fun e n ds es => trI.ask ⟨t, r, i⟩ e n ds es []).trans ?_
 refine dS (fun hlt => ?_) fun hge => ?_
 ·obtain ⟨i, rfl⟩ : ∃ i', i = i' + 1 := ⟨i - 1, by omega⟩
  have hW : IntKind.i64.wrap (((i + 1 : Nat) : Int) - 1) = (i : Int) := by rw [W_in (by omega) (by omega)]; omega
  simp only [hW, Int.toNat_natCast, Nat.add_zero]
  have hlt2 : i < r.n := by omega
  refine dT (by omega) (dT (by omega) (dT hlt2 (dT hlt2 (dT hlt2 (cS (fun h1 => ?_) fun h1 => ?_)))))
  ·have h1 : blank r i = true := h1
   have hq : trimN r (i + 1) = trimN r i := by rw [trimN, h1]; rfl
   exact LInv.ask_of ⟨rfl, ⟨t, r, i⟩, ⟨rfl, by simp only [trI, hq], rfl, Nat.le_of_succ_le hi, hn⟩, Nat.lt_succ_self _, [], wk0 (.cons (.sl _ _ _ _) (.cons (.v _) .nil)) rfl⟩
  ·have h1 : blank r i = false := h1
   have hq : trimN r (i + 1) = i + 1 := by rw [trimN, h1]; rfl
   refine LInv.ask_of ⟨rfl, rfl, [], ?_⟩
   simp only [trI, hq]
   exact wk0 (.cons (.sl _ _ _ _) (.cons (.v _) .nil)) rfl
 ·obtain rfl : i = 0 := by omega
  exact LInv.ask_of ⟨rfl, rfl, [], wk0 (.cons (.sl _ _ _ _) (.cons (.v _) .nil)) rfl⟩
theorem tr_tree (Q : (Nat → Nat → DV) → Nat → Prop) (t : Bool) (r : Gl) (k : DV → Option Unit) : bodyD Tryz.prog (envZ [(77, cgC Q)] (lpOf [(28, trI.g)]) 0) Tryz.f42 [.sl t r.cell 3 r.n] [] (fun d _ => k d) =
  bif holds ((Nat.le (Int.toNat (r.n : Int)) (Gl.n (glOf r.cell r.n)) ∧ Nat.le (Gl.n (glOf r.cell r.n)) 9000000) ∧ ∃ ids, WkP 0 ids [.sl t r.cell 3 r.n, iv (r.n : Int)] [] [.sl t (Gl.cell (glOf r.cell r.n)) 3 (Gl.n (glOf r.cell r.n)), iv (↑(Int.toNat (r.n : Int)) : Int)] (LInv.sh trI { t := t, r := glOf r.cell r.n, i := Int.toNat (r.n : Int) }))
  then bif decide (0 < Gl.n (glOf r.cell r.n)) then bif decide ((↑(trimN (glOf r.cell r.n) (Int.toNat (r.n : Int))) : Int) ≤ (↑(Gl.n (glOf r.cell r.n)) : Int)) then bif holds (Q (fun j => Gl.cell (glOf r.cell r.n) (0 + j)) (Int.toNat (↑(trimN (glOf r.cell r.n) (Int.toNat (r.n : Int))) : Int) - 0))
  then k (.sl false (Gl.cell { n := Int.toNat (↑(trimN (glOf r.cell r.n) (Int.toNat (r.n : Int))) : Int) - 0, tx := fun i => strD (sv (Gl.tx (glOf r.cell r.n) (0 + i))), wi := fun i => boolD (bv (Gl.wi (glOf r.cell r.n) (0 + i))), st := fun i => numD (iv (Gl.st (glOf r.cell r.n) (0 + i))) }) 3 (Int.toNat (↑(trimN (glOf r.cell r.n) (Int.toNat (r.n : Int))) : Int) - 0))
  else none else none else none else none := by
 kernel_rfl
noncomputable def trC (Q : (Nat → Nat → DV) → Nat → Prop) (F : Gl → Nat) : ConF := fun args k => match args with
 | [.sl _ g 3 n] => bif holds (Q g n) then k (fun _ => (.sl false (Gl.cell ⟨n, fun i => strD (g i 0), fun i => boolD (g i 1), fun i => numD (g i 2)⟩) 3 (F ⟨n, fun i => strD (g i 0), fun i => boolD (g i 1), fun i => numD (g i 2)⟩), [])) else none
 | _ => none
def glsPos (g : Nat → Nat → DV) (n : Nat) : Prop := glsOk g n ∧ 0 < n
def trimL (r : Gl) : Nat := trimN r r.n
theorem trC_ok {st : AE.Stat} (hx : ∀ f, exA f = false → ∀ a σ, st.ext f a σ = none) : ConOkZ true Tryz.prog st 42 (trC glsPos trimL) := by
 refine con_flatZ (mg := []) (l := [(77, cgC glsOk)]) (lp := lpOf [(28, trI.g)]) (n := 0) (glOk st) (fun x h => ?_) Tryz.func42 (by kernel_rfl) (by kernel_rfl) (hx 42 rfl) (lp_in (c0 := .loop (loopAt Tryz.f42 28)) (by kernel_rfl) (tr_ls hx)) fun args k hk => ?_
 ·simp only [List.mem_cons, List.not_mem_nil, or_false] at h
  subst h
  exact cgC_ok hx
 unfold trC at hk
 split at hk <;> first | (cases hk; done) | skip
 rename_i t g n
 obtain ⟨hb, hk⟩ := bif_none hk
 obtain ⟨hb, hp⟩ := holds_eq.1 hb
 refine ⟨[.sl t (glOf g n).cell 3 n], _, .cons (hb.cv t) .nil, ⟨.sl _ _ _ _, .sl fun i f _ _ => gl_low _ _ _⟩, hk, ?_⟩
 have hle := trimN_le (glOf g n) n
 have hn := hb.1
 refine (tr_tree glsOk t (glOf g n) _).trans (hT ⟨⟨Nat.le_refl _, hn⟩, [], wk0 (.cons (.sl _ _ _ _) (.cons (.v _) .nil)) rfl⟩ (dT hp (dT ?_ (hT ?_ (isD_of ?_)))))
 ·show ((trimN (glOf g n) n : Nat) : Int) ≤ (n : Int)
  omega
 ·exact ⟨Nat.le_trans hle hn, fun i _ => ⟨rfl, rfl, rfl⟩⟩
 ·show DV.sl false (Gl.cell ⟨trimN (glOf g n) n, fun i => (glOf g n).tx (0 + i), fun i => (glOf g n).wi (0 + i), fun i => (glOf g n).st (0 + i)⟩) 3 (trimN (glOf g n) n) = .sl false (glOf g n).cell 3 (trimN (glOf g n) n)
  congr 1
  funext i f
  match f with
  | 0 => show sv ((glOf g n).tx (0 + i)) = _; rw [Nat.zero_add]; rfl
  | 1 => show bv ((glOf g n).wi (0 + i)) = _; rw [Nat.zero_add]; rfl
  | _ + 2 => show iv ((glOf g n).st (0 + i)) = _; rw [Nat.zero_add]; rfl
end Go.Proofs.YtfdldnomelnbgaaGreatDoor

namespace Go.Proofs.YtfdldnomelnbgaaGreatDoor
open Go Go.AE Go.DE Go.RowKit

theorem sy_tree (a b c : Int) (k : DV → Option Unit) : bodyD Tryz.prog (env [] noLp 0) Tryz.f80 [.agg [iv a, iv b, iv c]] [] (fun d _ => k d) =
  bif IntKind.wrap .i64 (↑(BitVec.toNat (BitVec.ofInt 64 c &&& BitVec.ofInt 64 64)) : Int) != 0 then k (iv 3) else bif IntKind.wrap .i64 (↑(BitVec.toNat (BitVec.ofInt 64 c &&& BitVec.ofInt 64 32)) : Int) != 0
  then k (iv 2) else bif IntKind.wrap .i64 (↑(BitVec.toNat (BitVec.ofInt 64 c &&& BitVec.ofInt 64 29)) : Int) != 0 then k (iv 1) else k (iv 0) := by
 kernel_rfl
/-- Whether one of some flags is there. -/
def flB (m : Int) (x : Int) : Bool := IntKind.i64.wrap (((BitVec.ofInt 64 x &&& BitVec.ofInt 64 m).toNat : Nat) : Int) != 0
/-- The style of a rendition. -/
def styF (c : Int) : Int := bif flB 64 c then 3 else bif flB 32 c then 2 else bif flB 29 c then 1 else 0
noncomputable def syC (F : Int → Int) : ConF := fun args k => match args with
 | [.agg [.v (.int .i64 _), .v (.int .i64 _), .v (.int .i64 c)]] => k (fun _ => (iv (F c), []))
 | _ => none
theorem syC_ok {st : AE.Stat} (hx : ∀ f, exA f = false → ∀ a σ, st.ext f a σ = none) : ConOk Tryz.prog st 80 (syC styF) := by
 refine con_flat (mg := []) (l := []) (lp := noLp) (n := 0) (glOk st) (fun _ h => nomatch h) Tryz.func80 (by kernel_rfl) (by kernel_rfl) (hx 80 rfl) (fun _ _ _ h => nomatch h) fun args k hk => ?_
 unfold syC at hk
 split at hk <;> first | (cases hk; done) | skip
 rename_i a b c
 refine ⟨[.agg [iv a, iv b, iv c]], _, .self .nil, v_clo _, hk, (sy_tree a b c _).trans ?_⟩
 refine cS (fun h => isD_of ?_) fun h => cS (fun h2 => isD_of ?_) fun h2 => cS (fun h3 => isD_of ?_) fun h3 => isD_of ?_
 ·have h : flB 64 c = true := h
  unfold styF; rw [h]; rfl
 ·have h : flB 64 c = false := h
  have h2 : flB 32 c = true := h2
  unfold styF; rw [h, h2]; rfl
 ·have h : flB 64 c = false := h
  have h2 : flB 32 c = false := h2
  have h3 : flB 29 c = true := h3
  unfold styF; rw [h, h2, h3]; rfl
 ·have h : flB 64 c = false := h
  have h2 : flB 32 c = false := h2
  have h3 : flB 29 c = false := h3
  unfold styF; rw [h, h2, h3]; rfl
end Go.Proofs.YtfdldnomelnbgaaGreatDoor
