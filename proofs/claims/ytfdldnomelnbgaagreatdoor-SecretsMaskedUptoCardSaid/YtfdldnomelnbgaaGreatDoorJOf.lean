/-
 The contract of view.Of.
 Conditions: none beyond those of the contracts.

 The contract of view.Of: its loop over the rows, and the whole.
 Conditions: the program's ValidString answers as VdOk says; none beyond those of the contracts.
-/
import Derived.Test.YtfdldnomelnbgaaGreatDoorJCol
namespace Go.Proofs.YtfdldnomelnbgaaGreatDoor
open Go Go.AE Go.DE Go.RowKit

theorem gy_tree (t : Bool) (r : Row) (K : DV → DHeap → Option Unit) : bodyD Tryz.prog (env [] noLp 0) Tryz.f44 [.sl t r.cell 5 r.n] [] (fun d σ => K d σ) =
  K (.fn (Fn.func 79) [] [.po 0 0 0]) [some ⟨1, .lst [[.sl t r.cell 5 r.n]]⟩] := by
 kernel_rfl
/-- A row out of its cells, without further names. -/
noncomputable def gyC (Q : (Nat → Nat → DV) → Nat → Prop) (M : (Nat → Nat → DV) → Nat → Row) : ConF := fun args k => match args with
 | [.sl false g 5 n] => bif holds (Q g n) then k (fun b => (.fn (.func 79) [] [.po b 0 0], [some ⟨1, .lst [[.sl false (M g n).cell 5 n]]⟩])) else none
 | _ => none
theorem fn1_DR {C C' : Cf} {μ μ' : Mu} {d d' : DV} {v : Value} (h : DR C μ (.fn (.func 79) [] [d]) v) (hd : ∀ x, DR C μ d x → DR C' μ' d' x) : DR C' μ' (.fn (.func 79) [] [d']) v := by
 cases h with
 | fn _ _ _ x y h1 h2 h3 h4 =>
  refine .fn _ _ _ x y h1 h2 (fun i d x' hd hx => by simp at hd) fun i e x' he hx => ?_
  cases i with
  | succ i => simp at he
  | zero =>
   obtain rfl : d' = e := by simpa using he
   exact hd _ (h4 0 _ x' rfl hx)
theorem finQ_seq {s id : Nat} {c : DC} {σ : DHeap} {blk : DBlk} {d' : DV} (e : d' = .fn (.func 79) [] [.po id 0 0]) (hb : σ[id]? = some (some blk)) (hk : 1 = blk.k) (hn : c.n ≤ blk.c.n) (hg : c.good) (hc : ∀ i f, i < c.n → f < 1 → Clo (c.get i f) ∧ blk.c.get i f = c.get i f) :
  FinQ s (.fn (.func 79) [] [.po s 0 0], [some ⟨1, c⟩]) d' σ := by
 have at0 : ∀ {j : Nat} {b}, (List.replicate s none ++ [some (⟨1, c⟩ : DBlk)])[j]? = some (some b) → j = s ∧ b = ⟨1, c⟩ := by
  intro j b hj
  obtain ⟨h1, h2⟩ := repl_get.1 hj
  cases hx : j - s with
  | zero => rw [hx] at h2; simp only [List.getElem?_cons_zero, Option.some.injEq] at h2; exact ⟨by omega, h2.symm⟩
  | succ m => rw [hx] at h2; simp at h2
 refine ⟨fun j => if j = s then some id else none, fun j i h => ?_, ⟨.cons (by rw [e]; exact fun C μ x hx => fn1_DR hx fun y hy => (Sub.po (by simp)) C μ y hy) .nil, fun j h => by omega, fun j i h => ?_, by simp, fun a b ba bb ha hb _ => by rw [(at0 ha).1, (at0 hb).1], fun j b hj => ?_⟩⟩
 ·have h : (if j = s then some id else none) = some i := h
  split at h
  ·omega
  ·cases h
 ·have h : (if j = s then some id else none) = some i := h
  split at h
  ·simp; omega
  ·cases h
 ·obtain ⟨rfl, rfl⟩ := at0 hj
  refine ⟨id, blk, by simp, hb, hk, hn, hg, fun i f hi hf => ?_⟩
  obtain ⟨h1, h2⟩ := hc i f hi hf
  show Sub _ (c.get i f) (blk.c.get i f)
  rw [h2]
  exact .of_clo h1
theorem gyC_ok {st : AE.Stat} (hx : ∀ f, exA f = false → ∀ a σ, st.ext f a σ = none) : ConOk Tryz.prog st 44 (gyC cellsOk rowOf) := by
 refine con_of (mg := []) (l := []) (lp := noLp) (n := 0) (glOk st) (fun _ h => nomatch h) Tryz.func44 (by kernel_rfl) (by kernel_rfl) (hx 44 rfl) (fun _ _ _ h => nomatch h) fun args k hk => ?_
 unfold gyC at hk
 split at hk <;> first | (cases hk; done) | skip
 rename_i g n
 obtain ⟨hb, hk⟩ := bif_none hk
 have hb := holds_eq.1 hb
 refine ⟨[.sl false (rowOf g n).cell 5 n], _, .cons (hb.cv false) .nil, hk, fun s => ⟨⟨?_, fun id blk hb i f hi hf => ?_⟩, (gy_tree false (rowOf g n) _).trans (fin_of ?_)⟩⟩
 ·exact fun C C' μ x hC h => fn1_DR h fun y hy => Low.po _ _ _ C C' μ y hC hy
 ·cases id with
  | succ id => simp at hb
  | zero =>
   obtain rfl : (⟨1, .lst [[.sl false (rowOf g n).cell 5 n]]⟩ : DBlk) = blk := Option.some.inj (Option.some.inj hb)
   obtain rfl : i = 0 := by
    have : i < 1 := hi
    omega
   obtain rfl : f = 0 := by
    have : f < 1 := hf
    omega
   exact Low.sl fun j e _ _ => row_low _ _ _
 ·refine finQ_seq (id := 0) (blk := ⟨1, .lst [[.sl false (rowOf g n).cell 5 n]]⟩) rfl rfl rfl (Nat.le_refl _) trivial fun i f hi hf => ⟨?_, rfl⟩
  obtain rfl : i = 0 := by
   have : i < 1 := hi
   omega
  obtain rfl : f = 0 := by omega
  exact .sl _ _ _ _
noncomputable def ctV (Q : (Nat → Nat → DV) → Prop) (F : (Nat → Nat → DV) → Gl) : ConF := fun args k => match args with
 | [.fn (.func 79) [] [.pf _ G 1 1 0 0]] => bif holds (Q G) then k (fun _ => (.sl false (F G).cell 3 (F G).n, [])) else none
 | _ => none
noncomputable def trV (Q : (Nat → Nat → DV) → Nat → Prop) (T : (Nat → Nat → DV) → Nat → Gl) : ConF := fun args k => match args with
 | [.sl _ g 3 n] => bif holds (Q g n) then k (fun _ => (.sl false (T g n).cell 3 (T g n).n, [])) else none
 | _ => none
def trmT (g : Nat → Nat → DV) (n : Nat) : Gl := { glOf g n with n := trimL (glOf g n) }
def seqG (G : Nat → Nat → DV) : Gl := glR (seqR G)
theorem ctV_ok {st : AE.Stat} (hx : ∀ f, exA f = false → ∀ a σ, st.ext f a σ = none) : ConOkZ true Tryz.prog st 43 (ctV seqOk seqG) := ctC_ok hx
theorem trV_ok {st : AE.Stat} (hx : ∀ f, exA f = false → ∀ a σ, st.ext f a σ = none) : ConOkZ true Tryz.prog st 42 (trV glsPos trmT) := trC_ok hx
noncomputable abbrev ofL (Q0 : (Nat → Nat → DV) → Nat → Prop) (M : (Nat → Nat → DV) → Nat → Row) (Q : (Nat → Nat → DV) → Prop) (F : (Nat → Nat → DV) → Gl) (Q2 : (Nat → Nat → DV) → Nat → Prop) (N : (Nat → Nat → DV) → Nat → Gl) : List (FuncId × ConF) := [(44, gyC Q0 M), (43, ctV Q F), (42, trV Q2 N)]
theorem of0_loop (Q0 : (Nat → Nat → DV) → Nat → Prop) (M : (Nat → Nat → DV) → Nat → Row) (Q : (Nat → Nat → DV) → Prop) (F : (Nat → Nat → DV) → Gl) (Q2 : (Nat → Nat → DV) → Nat → Prop) (N : (Nat → Nat → DV) → Nat → Gl) (t : Bool) (R : Nat → Row) (n i : Nat) (a b c d : Int) (e : Bool) (K : Ex → Nat → List DV → List DV → DHeap → Option Unit) : execD Tryz.prog (envZ (ofL Q0 M Q F Q2 N) noLp 0) (loopAt Tryz.f12 122) 500 (temps 45 [2, 3, 28, 29, 30] [.po 1 0 0, .po 2 0 0, .sl t (rowsD (fun _ => false) R) 1 n, iv n, iv i]) [none, some ⟨6, .lst [[iv 0, iv 0, .v (.slice none 0 0), iv 0, iv 0, bv false]]⟩, some ⟨6, .lst [[iv a, iv b, .v (.slice none 0 0), iv c, iv d, bv e]]⟩, none] (fun e τ σ => K e τ.length (pick [2, 3, 28, 29, 30] τ) (pick [2, 3] τ) σ) =
  bif decide ((i : Int) < (n : Int)) then bif decide ((i : Int) < (n : Int)) then bif decide (tN i < n) then bif holds (Q0 (Row.cell (R (tN i))) (Row.n (R (tN i)))) then bif holds (Q fun j f => lend1 (DC.get (.lst [[.sl false (Row.cell (M (Row.cell (R (tN i))) (Row.n (R (tN i))))) 5 (Row.n (R (tN i)))]]) j f))
  then bif holds (Q2 (Gl.cell (F fun j f => lend1 (DC.get (.lst [[.sl false (Row.cell (M (Row.cell (R (tN i))) (Row.n (R (tN i))))) 5 (Row.n (R (tN i)))]]) j f))) (Gl.n (F fun j f => lend1 (DC.get (.lst [[.sl false (Row.cell (M (Row.cell (R (tN i))) (Row.n (R (tN i))))) 5 (Row.n (R (tN i)))]]) j f))))
  then K .normal 45 [.po 1 0 0, .po 2 0 0, .sl t (fun a a_1 => DV.sl ((fun x => false) a) (Row.cell (R a)) 5 (Row.n (R a))) 1 n, iv (n : Int), iv (IntKind.wrap .i64 ((i : Int) + 1))] [.po 1 0 0, .po 2 0 0] [none, some ⟨6, .lst [[iv 0, iv 0, DV.v (Value.slice none 0 0), iv 0, iv 0, bv false]]⟩, some ⟨6, .upd (.lst [[iv a, iv b, DV.v (Value.slice none 0 0), iv c, iv d, bv e]]) 0 2 (.os 6 0 1)⟩, none, some ⟨1, .lst [[.sl false (Row.cell (M (Row.cell (R (tN i))) (Row.n (R (tN i))))) 5 (Row.n (R (tN i)))]]⟩, some ⟨1, .lst [[.sl false (Gl.cell (N (Gl.cell (F fun j f => lend1 (DC.get (.lst [[.sl false (Row.cell (M (Row.cell (R (tN i))) (Row.n (R (tN i))))) 5 (Row.n (R (tN i)))]]) j f))) (Gl.n (F fun j f => lend1 (DC.get (.lst [[.sl false (Row.cell (M (Row.cell (R (tN i))) (Row.n (R (tN i))))) 5 (Row.n (R (tN i)))]]) j f))))) 3 (Gl.n (N (Gl.cell (F fun j f => lend1 (DC.get (.lst [[.sl false (Row.cell (M (Row.cell (R (tN i))) (Row.n (R (tN i))))) 5 (Row.n (R (tN i)))]]) j f))) (Gl.n (F fun j f => lend1 (DC.get (.lst [[.sl false (Row.cell (M (Row.cell (R (tN i))) (Row.n (R (tN i))))) 5 (Row.n (R (tN i)))]]) j f)))))]]⟩, some ⟨1, .lst [[.sl false (Gl.cell (N (Gl.cell (F fun j f => lend1 (DC.get (.lst [[.sl false (Row.cell (M (Row.cell (R (tN i))) (Row.n (R (tN i))))) 5 (Row.n (R (tN i)))]]) j f))) (Gl.n (F fun j f => lend1 (DC.get (.lst [[.sl false (Row.cell (M (Row.cell (R (tN i))) (Row.n (R (tN i))))) 5 (Row.n (R (tN i)))]]) j f))))) 3 (Gl.n (N (Gl.cell (F fun j f => lend1 (DC.get (.lst [[.sl false (Row.cell (M (Row.cell (R (tN i))) (Row.n (R (tN i))))) 5 (Row.n (R (tN i)))]]) j f))) (Gl.n (F fun j f => lend1 (DC.get (.lst [[.sl false (Row.cell (M (Row.cell (R (tN i))) (Row.n (R (tN i))))) 5 (Row.n (R (tN i)))]]) j f)))))]]⟩]
  else none else none else none else none else none else K (.exit 0) 45 [.po 1 0 0, .po 2 0 0, .sl t (fun a a_1 => DV.sl ((fun x => false) a) (Row.cell (R a)) 5 (Row.n (R a))) 1 n, iv (n : Int), iv (i : Int)] [.po 1 0 0, .po 2 0 0] [none, some ⟨6, .lst [[iv 0, iv 0, DV.v (Value.slice none 0 0), iv 0, iv 0, bv false]]⟩, some ⟨6, .lst [[iv a, iv b, DV.v (Value.slice none 0 0), iv c, iv d, bv e]]⟩, none] := by
 kernel_rfl
theorem of1_loop (Q0 : (Nat → Nat → DV) → Nat → Prop) (M : (Nat → Nat → DV) → Nat → Row) (Q : (Nat → Nat → DV) → Prop) (F : (Nat → Nat → DV) → Gl) (Q2 : (Nat → Nat → DV) → Nat → Prop) (N : (Nat → Nat → DV) → Nat → Gl) (t : Bool) (R : Nat → Row) (n i m : Nat) (V : Nat → Gl) (a b c d : Int) (e : Bool) (K : Ex → Nat → List DV → List DV → DHeap → Option Unit) : execD Tryz.prog (envZ (ofL Q0 M Q F Q2 N) noLp 0) (loopAt Tryz.f12 122) 500 (temps 45 [2, 3, 28, 29, 30] [.po 1 0 0, .po 2 0 0, .sl t (rowsD (fun _ => false) R) 1 n, iv n, iv i]) [none, some ⟨6, .lst [[iv 0, iv 0, .v (.slice none 0 0), iv 0, iv 0, bv false]]⟩, some ⟨6, .lst [[iv a, iv b, .os 3 0 m, iv c, iv d, bv e]]⟩, some ⟨1, .tab m (glsD (fun _ => false) V)⟩] (fun e τ σ => K e τ.length (pick [2, 3, 28, 29, 30] τ) (pick [2, 3] τ) σ) =
  bif decide ((i : Int) < (n : Int)) then bif decide ((i : Int) < (n : Int)) then bif decide (tN i < n) then bif holds (Q0 (Row.cell (R (tN i))) (Row.n (R (tN i)))) then bif holds (Q fun j f => lend1 (DC.get (.lst [[.sl false (Row.cell (M (Row.cell (R (tN i))) (Row.n (R (tN i))))) 5 (Row.n (R (tN i)))]]) j f))
  then bif holds (Q2 (Gl.cell (F fun j f => lend1 (DC.get (.lst [[.sl false (Row.cell (M (Row.cell (R (tN i))) (Row.n (R (tN i))))) 5 (Row.n (R (tN i)))]]) j f))) (Gl.n (F fun j f => lend1 (DC.get (.lst [[.sl false (Row.cell (M (Row.cell (R (tN i))) (Row.n (R (tN i))))) 5 (Row.n (R (tN i)))]]) j f))))
  then bif decide (m ≤ DC.n (.tab m (glsD (fun x => false) V))) then bif decide ((m + 1) * 24 ≤ 140737488355328) then K .normal 45 [.po 1 0 0, .po 2 0 0, .sl t (fun a a_1 => DV.sl ((fun x => false) a) (Row.cell (R a)) 5 (Row.n (R a))) 1 n, iv (n : Int), iv (IntKind.wrap .i64 ((i : Int) + 1))] [.po 1 0 0, .po 2 0 0] [none, some ⟨6, .lst [[iv 0, iv 0, DV.v (Value.slice none 0 0), iv 0, iv 0, bv false]]⟩, some ⟨6, .upd (.lst [[iv a, iv b, .os 3 0 m, iv c, iv d, bv e]]) 0 2 (.os 6 0 (m + 1))⟩, none, some ⟨1, .lst [[.sl false (Row.cell (M (Row.cell (R (tN i))) (Row.n (R (tN i))))) 5 (Row.n (R (tN i)))]]⟩, some ⟨1, .lst [[.sl false (Gl.cell (N (Gl.cell (F fun j f => lend1 (DC.get (.lst [[.sl false (Row.cell (M (Row.cell (R (tN i))) (Row.n (R (tN i))))) 5 (Row.n (R (tN i)))]]) j f))) (Gl.n (F fun j f => lend1 (DC.get (.lst [[.sl false (Row.cell (M (Row.cell (R (tN i))) (Row.n (R (tN i))))) 5 (Row.n (R (tN i)))]]) j f))))) 3 (Gl.n (N (Gl.cell (F fun j f => lend1 (DC.get (.lst [[.sl false (Row.cell (M (Row.cell (R (tN i))) (Row.n (R (tN i))))) 5 (Row.n (R (tN i)))]]) j f))) (Gl.n (F fun j f => lend1 (DC.get (.lst [[.sl false (Row.cell (M (Row.cell (R (tN i))) (Row.n (R (tN i))))) 5 (Row.n (R (tN i)))]]) j f)))))]]⟩, some ⟨1, .app (.pre (.tab m fun a a_1 => DV.sl ((fun x => false) a) (Gl.cell (V a)) 3 (Gl.n (V a))) m) (.lst [[.sl false (Gl.cell (N (Gl.cell (F fun j f => lend1 (DC.get (.lst [[.sl false (Row.cell (M (Row.cell (R (tN i))) (Row.n (R (tN i))))) 5 (Row.n (R (tN i)))]]) j f))) (Gl.n (F fun j f => lend1 (DC.get (.lst [[.sl false (Row.cell (M (Row.cell (R (tN i))) (Row.n (R (tN i))))) 5 (Row.n (R (tN i)))]]) j f))))) 3 (Gl.n (N (Gl.cell (F fun j f => lend1 (DC.get (.lst [[.sl false (Row.cell (M (Row.cell (R (tN i))) (Row.n (R (tN i))))) 5 (Row.n (R (tN i)))]]) j f))) (Gl.n (F fun j f => lend1 (DC.get (.lst [[.sl false (Row.cell (M (Row.cell (R (tN i))) (Row.n (R (tN i))))) 5 (Row.n (R (tN i)))]]) j f)))))]])⟩]
  else none else none else none else none else none else none else none else K (.exit 0) 45 [.po 1 0 0, .po 2 0 0, .sl t (fun a a_1 => DV.sl ((fun x => false) a) (Row.cell (R a)) 5 (Row.n (R a))) 1 n, iv (n : Int), iv (i : Int)] [.po 1 0 0, .po 2 0 0] [none, some ⟨6, .lst [[iv 0, iv 0, DV.v (Value.slice none 0 0), iv 0, iv 0, bv false]]⟩, some ⟨6, .lst [[iv a, iv b, .os 3 0 m, iv c, iv d, bv e]]⟩, some ⟨1, .tab m fun a a_1 => DV.sl ((fun x => false) a) (Gl.cell (V a)) 3 (Gl.n (V a))⟩] := by
 kernel_rfl
end Go.Proofs.YtfdldnomelnbgaaGreatDoor

namespace Go.Proofs.YtfdldnomelnbgaaGreatDoor
open Go Go.AE Go.DE Go.RowKit

def outV : Nat → DV
 | 0 => .v (.slice none 0 0)
 | n + 1 => .os 3 0 (n + 1)
abbrev vrow (R : Nat → Row) : Nat → Gl := fun j => viR (R j)
def outW (R : Nat → Row) : Nat → Option DBlk
 | 0 => none
 | n + 1 => some ⟨1, .tab (n + 1) (glsD (fun _ => false) (vrow R))⟩
structure ZV where
 t : Bool
 R : Nat → Row
 n : Nat
 i : Nat
 a : Int
 b : Int
 c : Int
 d : Int
 e : Bool
def zB : DBlk := ⟨6, .lst [[iv 0, iv 0, .v (.slice none 0 0), iv 0, iv 0, bv false]]⟩
def ZV.vB (x : ZV) (k : Nat) : DBlk := ⟨6, .lst [[iv x.a, iv x.b, outV k, iv x.c, iv x.d, bv x.e]]⟩
def ZV.ok (x : ZV) : Prop := x.n ≤ 9000000 ∧ ∀ j, j < x.n → (x.R j).sized ∧ 0 < (gls (x.R j) (x.R j).n 0).length
noncomputable def ofI : LInv ZV where
 pre x := x.i ≤ x.n ∧ x.ok
 m := 3
 n := 45
 ps := [2, 3, 28, 29, 30]
 sd x := [.po 1 0 0, .po 2 0 0, .sl x.t (rowsD (fun _ => false) x.R) 1 x.n, iv x.n, iv x.i]
 sh x := [none, some zB, some (x.vB x.i), outW x.R x.i]
 meas x := x.n - x.i
 e _ := .exit 0
 qs := [2, 3]
 od _ := [.po 1 0 0, .po 2 0 0]
 oh x := [none, some zB, some (x.vB x.n), outW x.R x.n]
 guess ds σ := match ds, σ with
  | [_, _, .sl t g 1 n, _, _], [_, _, some ⟨_, q⟩] => (match q.get 0 0, q.get 0 1, q.get 0 3, q.get 0 4, q.get 0 5 with
   | .v (.int _ a), .v (.int _ b), .v (.int _ c), .v (.int _ d), .v (.bool e) => some ⟨t, fun i => rowD (g i 0), n, 0, a, b, c, d, e⟩
   | _, _, _, _, _ => none)
  | _, _ => none
 cps x k := bif decide (x.n = 0) then k (.exit 0) [.po 1 0 0, .po 2 0 0] [none, some zB, some ⟨6, .lst [[iv x.a, iv x.b, .v (.slice none 0 0), iv x.c, iv x.d, bv x.e]]⟩, none] else
  k (.exit 0) [.po 1 0 0, .po 2 0 0] [none, some zB, some ⟨6, .lst [[iv x.a, iv x.b, .os 3 0 x.n, iv x.c, iv x.d, bv x.e]]⟩, some ⟨1, .tab x.n (glsD (fun _ => false) (vrow x.R))⟩]
theorem of_cps {x : ZV} {k : Ex → List DV → DHeap → Option Unit} (h : ofI.cps x k = some ()) : k (.exit 0) [.po 1 0 0, .po 2 0 0] [none, some zB, some (x.vB x.n), outW x.R x.n] = some () := by
 obtain ⟨t, R, n, i, a, b, c, d, e⟩ := x
 cases n with
 | zero => exact h
 | succ n =>
  have h2 : (bif decide (n + 1 = 0) then k (.exit 0) [.po 1 0 0, .po 2 0 0] [none, some zB, some ⟨6, .lst [[iv a, iv b, .v (.slice none 0 0), iv c, iv d, bv e]]⟩, none] else
   k (.exit 0) [.po 1 0 0, .po 2 0 0] [none, some zB, some (ZV.vB ⟨t, R, n + 1, i, a, b, c, d, e⟩ (n + 1)), outW R (n + 1)]) = some () := h
  rw [decide_eq_false (Nat.succ_ne_zero n)] at h2
  exact h2
theorem one6 {P : Nat → Prop} (h0 : P 0) (h1 : P 1) (h2 : P 2) (h3 : P 3) (h4 : P 4) (h5 : P 5) {f : Nat} (hf : f < 6) : P f := by
 have : f = 0 ∨ f = 1 ∨ f = 2 ∨ f = 3 ∨ f = 4 ∨ f = 5 := by omega
 rcases this with rfl | rfl | rfl | rfl | rfl | rfl
 ·exact h0
 ·exact h1
 ·exact h2
 ·exact h3
 ·exact h4
 ·exact h5
theorem of_wk {x : ZV} {k j : Nat} {ds : List DV} {σ : DHeap} {c1 c2 c3 : DC} (hds : SubL (ren 3 [j]) ds ds) (h1 : σ[1]? = some (some ⟨6, c1⟩)) (n1 : 1 ≤ c1.n) (e1 : ∀ f, f < 6 → c1.get 0 f = zB.c.get 0 f)
  (h2 : σ[2]? = some (some ⟨6, c2⟩)) (n2 : 1 ≤ c2.n) (e2 : ∀ f, f < 6 → f ≠ 2 → c2.get 0 f = (x.vB 0).c.get 0 f) (e3 : c2.get 0 2 = match k with | 0 => .v (.slice none 0 0) | k + 1 => .os j 0 (k + 1)) (hj : 3 ≤ j)
  (h3 : 0 < k → σ[j]? = some (some ⟨1, c3⟩)) (n3 : k ≤ c3.n) (e4 : ∀ a, a < k → c3.get a 0 = glsD (fun _ => false) (vrow x.R) a 0) : WkP 3 [j] ds σ ds [none, some zB, some (x.vB k), outW x.R k] := by
 have b1 : ∃ i' b, ren 3 [j] 1 = some i' ∧ σ[i']? = some (some b) ∧ SubC (ren 3 [j]) zB b := ⟨1, _, rfl, h1, rfl, n1, trivial, fun i f hi hf => by
  obtain rfl : i = 0 := by
   have : i < 1 := hi
   omega
  show Sub _ (zB.c.get 0 f) (c1.get 0 f)
  rw [e1 f hf]
  exact one6 (P := fun f => Sub (ren 3 [j]) (zB.c.get 0 f) (zB.c.get 0 f)) (.v _) (.v _) (.v _) (.v _) (.v _) (.v _) hf⟩
 have b2 : ∃ i' b, ren 3 [j] 2 = some i' ∧ σ[i']? = some (some b) ∧ SubC (ren 3 [j]) (x.vB k) b := ⟨2, _, rfl, h2, rfl, n2, trivial, fun i f hi hf => by
  obtain rfl : i = 0 := by
   have : i < 1 := hi
   omega
  show Sub _ ((x.vB k).c.get 0 f) (c2.get 0 f)
  by_cases hf2 : f = 2
  ·subst hf2
   rw [e3]
   cases k with
   | zero => exact .v _
   | succ k => exact (show Sub (ren 3 [j]) (.os 3 0 (k + 1)) (.os j 0 (k + 1)) from .os rfl)
  ·rw [e2 f hf hf2]
   exact one6 (P := fun f => f ≠ 2 → Sub (ren 3 [j]) ((x.vB k).c.get 0 f) ((x.vB 0).c.get 0 f)) (fun _ => .v _) (fun _ => .v _) (fun h => absurd rfl h) (fun _ => .v _) (fun _ => .v _) (fun _ => .v _) hf hf2⟩
 cases k with
 | zero => exact .of (im := [some 1, some 2]) hds rfl ⟨b1, b2, trivial⟩ rfl (by decide)
 | succ k =>
  refine .of (im := [some 1, some 2, some j]) hds rfl ⟨b1, b2, ⟨j, _, rfl, h3 (Nat.succ_pos _), rfl, n3, trivial, fun i f hi hf => ?_⟩, trivial⟩ rfl (by simp; omega)
  obtain rfl : f = 0 := by
   have : f < 1 := hf
   omega
  show Sub _ (glsD (fun _ => false) (vrow x.R) i 0) (c3.get i 0)
  rw [e4 i hi]
  exact .sl _ _ _ _
theorem WkP.toZ {m : Nat} {ids : List Nat} {ds ds2 : List DV} {σ σ2 : DHeap} (h : WkP m ids ds σ ds2 σ2) : WkPZ m ids [] ds σ ds2 σ2 := by
 refine ⟨h.tm.z, h.len, ?_, h.nd, fun j hj => nomatch hj⟩
 have key : ∀ (l : DHeap) (j : Nat), BlkL (ren m ids) σ j l → BlkLZ (ren m ids) (zf σ []) σ j l := by
  intro l
  induction l with
  | nil => intro j _; trivial
  | cons b l ih =>
   intro j hb
   cases b with
   | none => exact ih (j + 1) hb
   | some b =>
    obtain ⟨⟨i', b', q1, q2, q3⟩, hb⟩ := hb
    exact ⟨⟨i', b', q1, q2, q3.z⟩, ih (j + 1) hb⟩
 exact key _ _ h.blk
theorem of_ls {st : AE.Stat} (hx : ∀ f, exA f = false → ∀ a σ, st.ext f a σ = none) : LoopSR true Tryz.prog st gl0 (.loop (loopAt Tryz.f12 122)) ofI.g := by
 refine ofI.okZ (E := envZ (ofL cellsOk rowOf seqOk seqG glsPos trmT) noLp 0) (p := 500) rfl (tblD_env (l := ofL cellsOk rowOf seqOk seqG glsPos trmT) fun x h => ?_) (glOk st).1 (fun _ _ _ h => nomatch h) (fun x k h => of_cps h) fun x hx2 => ?_
 ·simp only [ofL, List.mem_cons, List.not_mem_nil, or_false] at h
  rcases h with rfl | rfl | rfl
  ·exact (gyC_ok hx).z
  ·exact ctV_ok hx
  ·exact trV_ok hx
 obtain ⟨t, R, n, i, a, b, c, d, e⟩ := x
 obtain ⟨hi, hn, hR⟩ : i ≤ n ∧ n ≤ 9000000 ∧ ∀ j, j < n → (R j).sized ∧ 0 < (gls (R j) (R j).n 0).length := hx2
 have ds1 : ∀ (j : Nat) (z : Int), SubL (ren 3 [j]) [.po 1 0 0, .po 2 0 0, .sl t (rowsD (fun _ => false) R) 1 n, iv n, iv z] [.po 1 0 0, .po 2 0 0, .sl t (rowsD (fun _ => false) R) 1 n, iv n, iv z] := fun j z =>
  .cons (.po rfl) (.cons (.po rfl) (.cons (.sl _ _ _ _) (.cons (.v _) (.cons (.v _) .nil))))
 have es1 : ∀ j : Nat, SubL (ren 3 [j]) [.po 1 0 0, .po 2 0 0] [.po 1 0 0, .po 2 0 0] := fun j => .cons (.po rfl) (.cons (.po rfl) .nil)
 have next : ∀ {σ : DHeap} {j : Nat}, i < n → WkP 3 [j] [.po 1 0 0, .po 2 0 0, .sl t (rowsD (fun _ => false) R) 1 n, iv n, iv ((i + 1 : Nat) : Int)] σ [.po 1 0 0, .po 2 0 0, .sl t (rowsD (fun _ => false) R) 1 n, iv n, iv ((i + 1 : Nat) : Int)] [none, some zB, some (ZV.vB ⟨t, R, n, i, a, b, c, d, e⟩ (i + 1)), outW R (i + 1)] →
   ofI.askZ ⟨t, R, n, i, a, b, c, d, e⟩ .normal 45 [.po 1 0 0, .po 2 0 0, .sl t (rowsD (fun _ => false) R) 1 n, iv n, iv ((i + 1 : Nat) : Int)] [.po 1 0 0, .po 2 0 0] σ = some () := fun {σ j} hlt hw =>
  LInv.askZ_of ⟨rfl, ⟨t, R, n, i + 1, a, b, c, d, e⟩, ⟨rfl, rfl, rfl, hlt, hn, hR⟩, by simp only [ofI]; omega, [j], [], WkP.toZ hw⟩
 have stop : ∀ {σ : DHeap} {j : Nat}, i = n → WkP 3 [j] [.po 1 0 0, .po 2 0 0] σ [.po 1 0 0, .po 2 0 0] [none, some zB, some (ZV.vB ⟨t, R, n, i, a, b, c, d, e⟩ i), outW R i] →
   ofI.askZ ⟨t, R, n, i, a, b, c, d, e⟩ (.exit 0) 45 [.po 1 0 0, .po 2 0 0, .sl t (rowsD (fun _ => false) R) 1 n, iv n, iv (i : Int)] [.po 1 0 0, .po 2 0 0] σ = some () := fun {σ j} h hw => by
  subst h
  exact LInv.askZ_of ⟨rfl, rfl, [j], [], WkP.toZ hw⟩
 have row : i < n → cellsOk (R i).cell (R i).n ∧ seqOk (fun j f => lend1 (DC.get (DC.lst [[.sl false (rowOf (R i).cell (R i).n).cell 5 (R i).n]]) j f)) ∧ glsPos (glR (R i)).cell (glR (R i)).n := fun hlt => by
  obtain ⟨hs, hp⟩ := hR i hlt
  exact ⟨Row.ok hs, ⟨false, (R i).cell, (R i).n, rfl, Row.ok hs, hp⟩, Gl.ok (Nat.le_trans (gls_len _ _ _) hs.1), hp⟩
 cases i with
 | zero =>
  refine (of0_loop cellsOk rowOf seqOk seqG glsPos trmT t R n 0 a b c d e _).trans ?_
  simp only [Int.toNat_natCast, Nat.add_zero]
  refine dS (fun hlt => ?_) fun hge => ?_
  ·have hlt : 0 < n := by omega
   obtain ⟨r1, r2, r3⟩ := row hlt
   refine dT (by omega) (dT hlt (hT r1 (hT r2 (hT r3 ?_))))
   have hW : IntKind.i64.wrap (((0 : Nat) : Int) + 1) = ((0 + 1 : Nat) : Int) := by rw [W_in (by decide) (by decide)]; rfl
   rw [hW]
   refine next (j := 6) hlt (of_wk (c3 := .lst [[.sl false (viR (R 0)).cell 3 (viR (R 0)).n]]) (ds1 _ _) rfl (Nat.le_refl _) (fun f hf => rfl) rfl (Nat.le_refl _) (fun f hf h2 => ?_) rfl (by decide) (fun _ => rfl) (Nat.le_refl _) fun j hj => ?_)
   ·show (if 0 = 0 ∧ f = 2 then _ else _) = _
    rw [if_neg fun q => h2 q.2]
    rfl
   ·obtain rfl : j = 0 := by omega
    rfl
  ·exact stop (j := 3) (by omega) (of_wk (c3 := .lst []) (es1 _) rfl (Nat.le_refl _) (fun f hf => rfl) rfl (Nat.le_refl _) (fun f hf h2 => rfl) rfl (by decide) (fun h => absurd h (by decide)) (Nat.le_refl _) fun j hj => absurd hj (Nat.not_lt_zero _))
 | succ i =>
  refine (of1_loop cellsOk rowOf seqOk seqG glsPos trmT t R n (i + 1) (i + 1) (vrow R) a b c d e _).trans ?_
  simp only [Int.toNat_natCast, Nat.add_zero]
  refine dS (fun hlt => ?_) fun hge => ?_
  ·have hlt : i + 1 < n := by omega
   obtain ⟨r1, r2, r3⟩ := row hlt
   refine dT (by omega) (dT hlt (hT r1 (hT r2 (hT r3 (dT (Nat.le_refl _) (dT (by omega) ?_))))))
   have hW : IntKind.i64.wrap (((i + 1 : Nat) : Int) + 1) = ((i + 1 + 1 : Nat) : Int) := by rw [W_in (by omega) (by omega)]; omega
   rw [hW]
   refine next (j := 6) hlt (of_wk (c3 := .app (.pre (.tab (i + 1) (glsD (fun _ => false) (vrow R))) (i + 1)) (.lst [[.sl false (viR (R (i + 1))).cell 3 (viR (R (i + 1))).n]])) (ds1 _ _) rfl (Nat.le_refl _) (fun f hf => rfl) rfl (Nat.le_refl _) (fun f hf h2 => ?_) rfl (by decide) (fun _ => rfl) (Nat.le_refl _) fun j hj => ?_)
   ·show (if 0 = 0 ∧ f = 2 then _ else _) = _
    rw [if_neg fun q => h2 q.2]
    exact one6 (P := fun f => f ≠ 2 → (DC.lst [[iv a, iv b, .os 3 0 (i + 1), iv c, iv d, bv e]]).get 0 f = (ZV.vB ⟨t, R, n, i + 1, a, b, c, d, e⟩ 0).c.get 0 f) (fun _ => rfl) (fun _ => rfl) (fun h => absurd rfl h) (fun _ => rfl) (fun _ => rfl) (fun _ => rfl) hf h2
   ·show (if j < i + 1 then _ else (DC.lst [[.sl false (viR (R (i + 1))).cell 3 (viR (R (i + 1))).n]]).get (j - (i + 1)) 0) = _
    by_cases h : j < i + 1
    ·rw [if_pos h]
     rfl
    ·obtain rfl : j = i + 1 := by omega
     rw [if_neg h, Nat.sub_self]
     rfl
  ·exact stop (j := 3) (by omega) (of_wk (c3 := .tab (i + 1) (glsD (fun _ => false) (vrow R))) (es1 _) rfl (Nat.le_refl _) (fun f hf => rfl) rfl (Nat.le_refl _) (fun f hf h2 => one6 (P := fun f => f ≠ 2 → (DC.lst [[iv a, iv b, .os 3 0 (i + 1), iv c, iv d, bv e]]).get 0 f = (ZV.vB ⟨t, R, n, i + 1, a, b, c, d, e⟩ 0).c.get 0 f) (fun _ => rfl) (fun _ => rfl) (fun h => absurd rfl h) (fun _ => rfl) (fun _ => rfl) (fun _ => rfl) hf h2) rfl (by decide) (fun h => rfl) (Nat.le_refl _) fun j hj => rfl)
/-- A terminal whose rows are all memory of one kind. -/
def Tm.low (x : Tm) : Tm := { x with gT := fun _ => false }
theorem vo_tree (Q : List DV → Prop) (F : List DV → Bool) (x : Tm) (K : DV → DHeap → Option Unit) : bodyD Tryz.prog (envZ [(41, swC Q F)] (lpOf [(122, ofI.g)]) 0) Tryz.f12 [.agg x.low.cells] [] (fun d σ => K d σ) =
  bif holds (Q (Tm.cells x.low)) then bif !F (Tm.cells x.low) then K (.agg [iv 0, iv 0, DV.v (Value.slice none 0 0), iv 0, iv 0, bv false]) [some ⟨42, .lst [(Tm.cells x.low)]⟩, some ⟨6, .upd (.upd (.upd (.upd (.upd (.upd (.lst [[iv 0, iv 0, DV.v (Value.slice none 0 0), iv 0, iv 0, bv false]]) 0 0 (iv 0)) 0 1 (iv 0)) 0 2 (DV.v (Value.slice none 0 0))) 0 3 (iv 0)) 0 4 (iv 0)) 0 5 (bv false)⟩]
  else bif holds ((Nat.le 0 (Tm.gn x.low) ∧ Nat.le (Tm.gn x.low) 9000000 ∧ ∀ (j : Nat), j < Tm.gn x.low → (Nat.le (Row.n ((fun i => rowD (.sl (Tm.gT x.low i) (Row.cell (Tm.gR x.low i)) 5 (Row.n (Tm.gR x.low i)))) j)) 9000000 ∧ ∀ (i : Nat), i < Row.n ((fun i => rowD (.sl (Tm.gT x.low i) (Row.cell (Tm.gR x.low i)) 5 (Row.n (Tm.gR x.low i)))) j) → Nat.le (ByteArray.size (Row.tx ((fun i => rowD (.sl (Tm.gT x.low i) (Row.cell (Tm.gR x.low i)) 5 (Row.n (Tm.gR x.low i)))) j) i)) 9000000) ∧ Nat.le 1 (List.length (gls ((fun i => rowD (.sl (Tm.gT x.low i) (Row.cell (Tm.gR x.low i)) 5 (Row.n (Tm.gR x.low i)))) j) (Row.n ((fun i => rowD (.sl (Tm.gT x.low i) (Row.cell (Tm.gR x.low i)) 5 (Row.n (Tm.gR x.low i)))) j)) 0))) ∧ ∃ ids, WkP 3 ids [.po 1 0 0, .po 2 0 0, .sl false (fun a a_1 => DV.sl (Tm.gT x.low a) (Row.cell (Tm.gR x.low a)) 5 (Row.n (Tm.gR x.low a))) 1 (Tm.gn x.low), iv (↑(Tm.gn x.low) : Int), iv 0] [some ⟨42, .lst [(Tm.cells x.low)]⟩, some ⟨6, .lst [[iv 0, iv 0, DV.v (Value.slice none 0 0), iv 0, iv 0, bv false]]⟩, some ⟨6, .upd (.upd (.upd (.upd (.upd (.upd (.lst [[iv 0, iv 0, DV.v (Value.slice none 0 0), iv 0, iv 0, bv false]]) 0 0 (iv (Tm.I x.low 0))) 0 1 (iv (Tm.I x.low 1))) 0 2 (DV.v (Value.slice none 0 0))) 0 3 (iv (Tm.I x.low 6))) 0 4 (iv (Tm.I x.low 7))) 0 5 (bv (Tm.B x.low 27))⟩] [.po 1 0 0, .po 2 0 0, .sl false (fun a a_1 => DV.sl ((fun x => false) a) (Row.cell ((fun i => rowD (.sl (Tm.gT x.low i) (Row.cell (Tm.gR x.low i)) 5 (Row.n (Tm.gR x.low i)))) a)) 5 (Row.n ((fun i => rowD (.sl (Tm.gT x.low i) (Row.cell (Tm.gR x.low i)) 5 (Row.n (Tm.gR x.low i)))) a))) 1 (Tm.gn x.low), iv (↑(Tm.gn x.low) : Int), iv 0] [none, some ⟨6, .lst [[iv 0, iv 0, DV.v (Value.slice none 0 0), iv 0, iv 0, bv false]]⟩, some ⟨6, .lst [[iv (Tm.I x.low 0), iv (Tm.I x.low 1), DV.v (Value.slice none 0 0), iv (Tm.I x.low 6), iv (Tm.I x.low 7), bv (Tm.B x.low 27)]]⟩, none])
  then bif decide (Tm.gn x.low = 0) then K (.agg [iv (Tm.I x.low 0), iv (Tm.I x.low 1), DV.v (Value.slice none 0 0), iv (Tm.I x.low 6), iv (Tm.I x.low 7), bv (Tm.B x.low 27)]) [none, some ⟨6, .upd (.upd (.upd (.upd (.upd (.upd (.lst [[iv 0, iv 0, DV.v (Value.slice none 0 0), iv 0, iv 0, bv false]]) 0 0 (iv (Tm.I x.low 0))) 0 1 (iv (Tm.I x.low 1))) 0 2 (DV.v (Value.slice none 0 0))) 0 3 (iv (Tm.I x.low 6))) 0 4 (iv (Tm.I x.low 7))) 0 5 (bv (Tm.B x.low 27))⟩, some ⟨6, .lst [[iv (Tm.I x.low 0), iv (Tm.I x.low 1), DV.v (Value.slice none 0 0), iv (Tm.I x.low 6), iv (Tm.I x.low 7), bv (Tm.B x.low 27)]]⟩, none]
  else K (.agg [iv (Tm.I x.low 0), iv (Tm.I x.low 1), .os 3 0 (Tm.gn x.low), iv (Tm.I x.low 6), iv (Tm.I x.low 7), bv (Tm.B x.low 27)]) [none, some ⟨6, .upd (.upd (.upd (.upd (.upd (.upd (.lst [[iv 0, iv 0, DV.v (Value.slice none 0 0), iv 0, iv 0, bv false]]) 0 0 (iv (Tm.I x.low 0))) 0 1 (iv (Tm.I x.low 1))) 0 2 (.os 3 0 (Tm.gn x.low))) 0 3 (iv (Tm.I x.low 6))) 0 4 (iv (Tm.I x.low 7))) 0 5 (bv (Tm.B x.low 27))⟩, some ⟨6, .lst [[iv (Tm.I x.low 0), iv (Tm.I x.low 1), .os 3 0 (Tm.gn x.low), iv (Tm.I x.low 6), iv (Tm.I x.low 7), bv (Tm.B x.low 27)]]⟩, some ⟨1, .tab (Tm.gn x.low) fun a a_1 => DV.sl ((fun x => false) a) (Gl.cell (vrow (fun i => rowD (.sl (Tm.gT x.low i) (Row.cell (Tm.gR x.low i)) 5 (Row.n (Tm.gR x.low i)))) a)) 3 (Gl.n (vrow (fun i => rowD (.sl (Tm.gT x.low i) (Row.cell (Tm.gR x.low i)) 5 (Row.n (Tm.gR x.low i)))) a))⟩]
  else none else none := by
 kernel_rfl
/-- The numbers of a view. -/
def viI (l : List DV) (j : Nat) : Int := bif showF (tmOf l) then (tmOf l).I j else 0
def viG (l : List DV) : Nat → Gl := fun i => viR ((tmOf l).gR i)
def viC (l : List DV) : Nat := viN (tmOf l)
def viB (l : List DV) : Bool := showF (tmOf l) && (tmOf l).B 27
noncomputable def ofC (Q : List DV → Prop) (I : List DV → Nat → Int) (R : List DV → Nat → Gl) (N : List DV → Nat) (E : List DV → Bool) : ConF := fun args k => match args with
 | [.agg l] => bif holds (Q l) then k (fun _ => (.agg [iv (I l 0), iv (I l 1), .sl false (glsD (fun _ => false) (R l)) 1 (N l), iv (I l 6), iv (I l 7), bv (E l)], [])) else none
 | _ => none
/-- Cells of a terminal whose rows are small, and memory of one kind. -/
def tmLow (l : List DV) : Prop := tmOk l ∧ ∀ i, i < (tmOf l).gn → (tmOf l).gT i = false
theorem low_cv {x : Tm} (h : ∀ i, i < x.gn → x.gT i = false) : Cv (.agg x.cells) (.agg x.low.cells) := by
 refine Cv.agg ?_
 have hc : Cv (.sl false (rowsD x.gT x.gR) 1 x.gn) (.sl false (rowsD (fun _ => false) x.gR) 1 x.gn) := Cv.sl fun i f hi hf => .of (by
  show DV.sl (x.gT i) _ _ _ = .sl false _ _ _
  rw [h i hi])
 exact .self (.self (.cons hc (.self (.self (.self (.self (.self (.self (.self (.self (.self (.self (.self (.self (.self (.self (.self (.self (.self (.self (.self (.self (.self (.self (.self (.self (.self (.self (.self (.self (.self (.self (.self (.self (.self (.self (.self (.self (.self (.self (.self .nil)))))))))))))))))))))))))))))))))))))))))
theorem show_rows {x : Tm} (h : showF x = true) : ∀ j, j < x.gn → rowF (x.gR j) = 0 := fun j hj => by
 have cf : ∀ {b c : Bool}, (bif b then c else false) = true → b = true ∧ c = true := fun {b c} h => by cases b <;> simp_all
 unfold showF at h
 have h := (cf (cf (cf h).2).2).2
 rw [cond_ff] at h
 have h := h.2
 rw [cond_ff] at h
 have h := h.2
 rw [cond_ff] at h
 have h := h.2
 rw [cond_ff] at h
 have h := h.2
 rw [cond_ff] at h
 have h := h.2
 rw [cond_ff] at h
 have h := allF_iff.1 h.2 j (Nat.zero_le _) (by omega)
 unfold rowSo at h
 rw [cond_ff, cond_ff] at h
 simpa using h.2.1
theorem fz_low (R : Nat → Gl) (n : Nat) : Low (.sl false (glsD (fun _ => false) R) 1 n) := .sl fun i f _ _ => .sl fun j e _ _ => gl_low _ _ _
theorem vo_run (x : Tm) (hok : x.ok) : bodyD Tryz.prog (envZ [(41, swC tmOk showL)] (lpOf [(122, ofI.g)]) 0) Tryz.f12 [.agg x.low.cells] []
  (fzq (.agg [iv (bif showF x then x.I 0 else 0), iv (bif showF x then x.I 1 else 0), .sl false (glsD (fun _ => false) fun i => viR (x.gR i)) 1 (viN x), iv (bif showF x then x.I 6 else 0), iv (bif showF x then x.I 7 else 0), bv (showF x && x.B 27)])) = some () := by
 refine (vo_tree tmOk showL x _).trans (hT ⟨rfl, hok⟩ (cS (fun h => ?_) fun h => ?_))
 ·have h : showF x = false := by
   have h : (!showF x) = true := h
   simpa using h
  unfold viN
  rw [h]
  refine fzq_of ⟨[], SubLZ.agg (.cons (Sub.v _).z (.cons (Sub.v _).z (.cons (fun C μ y _ hy => ?_) (.cons (Sub.v _).z (.cons (Sub.v _).z (.cons (Sub.v _).z .nil)))))), fun j hj => nomatch hj⟩
  cases hy
  exact .slnil _ _ _
 ·have h : showF x = true := by
   have h : (!showF x) = false := h
   simpa using h
  have rows := show_rows h
  unfold viN
  rw [h]
  refine hT ⟨⟨Nat.zero_le _, hok.1.1, fun j hj => ⟨hok.1.2 j hj, gls_pos (rows j hj)⟩⟩, [3], ?_⟩ ?_
  ·refine of_wk (x := ⟨false, x.gR, x.gn, 0, x.I 0, x.I 1, x.I 6, x.I 7, x.B 27⟩) (k := 0) (j := 3) (c3 := .lst []) (.cons (.po rfl) (.cons (.po rfl) (.cons (.sl _ _ _ _) (.cons (.v _) (.cons (.v _) .nil))))) rfl (Nat.le_refl _) (fun f hf => rfl) rfl (Nat.le_refl _) (fun f hf h2 => ?_) rfl (by decide) (fun h => absurd h (by decide)) (Nat.le_refl _) fun j hj => absurd hj (Nat.not_lt_zero _)
   exact one6 (P := fun f => f ≠ 2 → (DC.upd (DC.upd (DC.upd (DC.upd (DC.upd (DC.upd (DC.lst [[iv 0, iv 0, .v (.slice none 0 0), iv 0, iv 0, bv false]]) 0 0 (iv (x.I 0))) 0 1 (iv (x.I 1))) 0 2 (.v (.slice none 0 0))) 0 3 (iv (x.I 6))) 0 4 (iv (x.I 7))) 0 5 (bv (x.B 27))).get 0 f = (ZV.vB ⟨false, x.gR, x.gn, 0, x.I 0, x.I 1, x.I 6, x.I 7, x.B 27⟩ 0).c.get 0 f)
    (fun _ => rfl) (fun _ => rfl) (fun h => absurd rfl h) (fun _ => rfl) (fun _ => rfl) (fun _ => rfl) hf h2
  ·refine dS (fun h0 => ?_) fun h0 => ?_
   ·have h0 : x.gn = 0 := h0
    rw [h0]
    refine fzq_of ⟨[], SubLZ.agg (.cons (Sub.v _).z (.cons (Sub.v _).z (.cons (fun C μ y _ hy => ?_) (.cons (Sub.v _).z (.cons (Sub.v _).z (.cons (Sub.v _).z .nil)))))), fun j hj => nomatch hj⟩
    cases hy
    exact .slnil _ _ _
   ·refine fzq_of ⟨[3], SubLZ.agg (.cons (Sub.v _).z (.cons (Sub.v _).z (.cons ?_ (.cons (Sub.v _).z (.cons (Sub.v _).z (.cons (Sub.v _).z .nil)))))), fun j hj blk hb i f _ _ => ?_⟩
    ·exact SubZ.fz0 (c := .tab x.gn (glsD (fun _ => false) fun i => viR (x.gR i))) rfl (Nat.le_refl _) fun _ _ => rfl
    ·obtain rfl : j = 3 := by simpa using hj
     obtain rfl : (⟨1, .tab x.gn (glsD (fun _ => false) fun i => viR (x.gR i))⟩ : DBlk) = blk := Option.some.inj (Option.some.inj hb)
     exact .sl _ _ _ _
theorem ofC_ok {st : AE.Stat} (hx : ∀ f, exA f = false → ∀ a σ, st.ext f a σ = none) (hv : VdOk st) : ConOkZ true Tryz.prog st 12 (ofC tmLow viI viG viC viB) := by
 refine con_frz (E := envZ [(41, swC tmOk showL)] (lpOf [(122, ofI.g)]) 0) rfl (glOk st) (tblD_env (l := [(41, swC tmOk showL)]) fun x h => ?_) Tryz.func12 (by kernel_rfl) (by kernel_rfl) (hx 12 rfl) (lp_in (c0 := .loop (loopAt Tryz.f12 122)) (by kernel_rfl) (of_ls hx)) fun args k hk => ?_
 ·simp only [List.mem_cons, List.not_mem_nil, or_false] at h
  subst h
  exact (swC_ok hx hv).z
 unfold ofC at hk
 split at hk <;> first | (cases hk; done) | skip
 rename_i l
 obtain ⟨hb, hk⟩ := bif_none hk
 obtain ⟨⟨h1, h2⟩, h3⟩ := holds_eq.1 hb
 refine ⟨[.agg (tmOf l).low.cells], _, .cons (fun C μ v hv => low_cv h3 C μ v (by rw [← h1]; exact hv)) .nil, Low.agg fun d hd => ?_, hk, vo_run (tmOf l) h2⟩
 simp only [List.mem_cons, List.not_mem_nil, or_false] at hd
 rcases hd with rfl | rfl | rfl | rfl | rfl | rfl <;> first | exact Low.v _ | exact fz_low _ _
end Go.Proofs.YtfdldnomelnbgaaGreatDoor
