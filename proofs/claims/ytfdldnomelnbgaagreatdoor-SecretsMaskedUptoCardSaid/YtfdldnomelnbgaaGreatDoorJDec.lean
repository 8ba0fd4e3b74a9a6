/-
 The contracts of the reference's UTF-8 decoder: limits, value, Decode.
 Conditions: none beyond those of the contracts.

 The contract of the reference's 'value': the character that a sequence of bytes spells.
 Conditions: none beyond those of the contract.
-/
import Derived.Test.YtfdldnomelnbgaaGreatDoorDeNd
import Derived.Test.YtfdldnomelnbgaaGreatDoorProg
import Derived.KernelRfl
namespace Go.Proofs.YtfdldnomelnbgaaGreatDoor
abbrev tN (i : Nat) : Nat := Int.toNat (↑i : Int) + 0
open Go Go.AE Go.DE Go.RowKit

/-- The functions that are told ahead. -/
def exA (f : FuncId) : Bool := f == 6 || f == 65
def gl0 : Gl := fun _ => .any
theorem glOk (st : AE.Stat) : GlOk st gl0 := ⟨fun _ => .any, fun _ _ _ _ _ _ => .any _⟩
noncomputable def env (l : List (FuncId × ConF)) (lp : Nat → Option (LoopD Unit)) (n : Nat) (mg : List (Nat × List (Nat × List Nat)) := []) : Env Unit := ⟨tblD l, fun _ => true, gl0, lp, n, joins Tryz.prog gl0 mg, false⟩
/-- The same, where memory may come to be that nothing writes to. -/
noncomputable def envZ (l : List (FuncId × ConF)) (lp : Nat → Option (LoopD Unit)) (n : Nat) (mg : List (Nat × List (Nat × List Nat)) := []) : Env Unit := ⟨tblD l, fun _ => true, gl0, lp, n, joins Tryz.prog gl0 mg, true⟩
theorem lim_tree (t : Bool) (z : Nat → Int) (n : Nat) (k : DV → Option Unit) : bodyD Tryz.prog (env [] noLp 0) Tryz.f103 [.sl t (rowI .u8 z) 1 n] [] (fun d _ => k d) =
  bif (n : Int) == 0 then k (.tup [kv .u8 0, kv .u8 255, iv 0]) else bif decide (0 < (n : Int)) then bif decide (0 < n) then bif decide (z 0 ≥ 194) then bif decide (0 < (n : Int)) then bif decide (0 < n)
  then bif decide (z 0 ≤ 223) then bif (n : Int) == 1 then bif decide (0 < (n : Int)) then bif decide (0 < n) then bif z 0 == 224 then k (.tup [kv .u8 160, kv .u8 191, iv 2]) else bif z 0 == 237 then k (.tup [kv .u8 128, kv .u8 159, iv 2])
  else bif z 0 == 240 then k (.tup [kv .u8 144, kv .u8 191, iv 2]) else bif z 0 == 244 then k (.tup [kv .u8 128, kv .u8 143, iv 2]) else k (.tup [kv .u8 128, kv .u8 191, iv 2]) else none else none else k (.tup [kv .u8 128, kv .u8 191, iv 2])
  else bif decide (0 < (n : Int)) then bif decide (0 < n) then bif decide (z 0 ≥ 224) then bif decide (0 < (n : Int)) then bif decide (0 < n) then bif decide (z 0 ≤ 239) then bif (n : Int) == 1 then
  bif decide (0 < (n : Int)) then bif decide (0 < n) then bif z 0 == 224 then k (.tup [kv .u8 160, kv .u8 191, iv 3]) else bif z 0 == 237 then k (.tup [kv .u8 128, kv .u8 159, iv 3]) else bif z 0 == 240
  then k (.tup [kv .u8 144, kv .u8 191, iv 3]) else bif z 0 == 244 then k (.tup [kv .u8 128, kv .u8 143, iv 3]) else k (.tup [kv .u8 128, kv .u8 191, iv 3]) else none else none else k (.tup [kv .u8 128, kv .u8 191, iv 3])
  else bif decide (0 < (n : Int)) then bif decide (0 < n) then bif decide (z 0 ≥ 240) then bif decide (0 < (n : Int)) then bif decide (0 < n) then bif decide (z 0 ≤ 244) then bif (n : Int) == 1 then
  bif decide (0 < (n : Int)) then bif decide (0 < n) then bif z 0 == 224 then k (.tup [kv .u8 160, kv .u8 191, iv 4]) else bif z 0 == 237 then k (.tup [kv .u8 128, kv .u8 159, iv 4]) else bif z 0 == 240
  then k (.tup [kv .u8 144, kv .u8 191, iv 4]) else bif z 0 == 244 then k (.tup [kv .u8 128, kv .u8 143, iv 4]) else k (.tup [kv .u8 128, kv .u8 191, iv 4]) else none else none else k (.tup [kv .u8 128, kv .u8 191, iv 4])
  else bif (n : Int) == 1 then bif decide (0 < (n : Int)) then bif decide (0 < n) then bif z 0 == 224 then k (.tup [kv .u8 160, kv .u8 191, iv 0]) else bif z 0 == 237 then k (.tup [kv .u8 128, kv .u8 159, iv 0])
  else bif z 0 == 240 then k (.tup [kv .u8 144, kv .u8 191, iv 0]) else bif z 0 == 244 then k (.tup [kv .u8 128, kv .u8 143, iv 0]) else k (.tup [kv .u8 128, kv .u8 191, iv 0]) else none else none else k (.tup [kv .u8 128, kv .u8 191, iv 0])
  else none else none else bif (n : Int) == 1 then bif decide (0 < (n : Int)) then bif decide (0 < n) then bif z 0 == 224 then k (.tup [kv .u8 160, kv .u8 191, iv 0]) else bif z 0 == 237 then k (.tup [kv .u8 128, kv .u8 159, iv 0])
  else bif z 0 == 240 then k (.tup [kv .u8 144, kv .u8 191, iv 0]) else bif z 0 == 244 then k (.tup [kv .u8 128, kv .u8 143, iv 0]) else k (.tup [kv .u8 128, kv .u8 191, iv 0]) else none else none else k (.tup [kv .u8 128, kv .u8 191, iv 0])
  else none else none else none else none else bif decide (0 < (n : Int)) then bif decide (0 < n) then bif decide (z 0 ≥ 240) then bif decide (0 < (n : Int)) then bif decide (0 < n) then bif decide (z 0 ≤ 244)
  then bif (n : Int) == 1 then bif decide (0 < (n : Int)) then bif decide (0 < n) then bif z 0 == 224 then k (.tup [kv .u8 160, kv .u8 191, iv 4]) else bif z 0 == 237 then k (.tup [kv .u8 128, kv .u8 159, iv 4])
  else bif z 0 == 240 then k (.tup [kv .u8 144, kv .u8 191, iv 4]) else bif z 0 == 244 then k (.tup [kv .u8 128, kv .u8 143, iv 4]) else k (.tup [kv .u8 128, kv .u8 191, iv 4]) else none else none else k (.tup [kv .u8 128, kv .u8 191, iv 4])
  else bif (n : Int) == 1 then bif decide (0 < (n : Int)) then bif decide (0 < n) then bif z 0 == 224 then k (.tup [kv .u8 160, kv .u8 191, iv 0]) else bif z 0 == 237 then k (.tup [kv .u8 128, kv .u8 159, iv 0])
  else bif z 0 == 240 then k (.tup [kv .u8 144, kv .u8 191, iv 0]) else bif z 0 == 244 then k (.tup [kv .u8 128, kv .u8 143, iv 0]) else k (.tup [kv .u8 128, kv .u8 191, iv 0]) else none else none else k (.tup [kv .u8 128, kv .u8 191, iv 0])
  else none else none else bif (n : Int) == 1 then bif decide (0 < (n : Int)) then bif decide (0 < n) then bif z 0 == 224 then k (.tup [kv .u8 160, kv .u8 191, iv 0]) else bif z 0 == 237 then k (.tup [kv .u8 128, kv .u8 159, iv 0])
  else bif z 0 == 240 then k (.tup [kv .u8 144, kv .u8 191, iv 0]) else bif z 0 == 244 then k (.tup [kv .u8 128, kv .u8 143, iv 0]) else k (.tup [kv .u8 128, kv .u8 191, iv 0]) else none else none else k (.tup [kv .u8 128, kv .u8 191, iv 0])
  else none else none else none else none else none else none else bif decide (0 < (n : Int)) then bif decide (0 < n) then bif decide (z 0 ≥ 224) then bif decide (0 < (n : Int)) then bif decide (0 < n)
  then bif decide (z 0 ≤ 239) then bif (n : Int) == 1 then bif decide (0 < (n : Int)) then bif decide (0 < n) then bif z 0 == 224 then k (.tup [kv .u8 160, kv .u8 191, iv 3]) else bif z 0 == 237 then k (.tup [kv .u8 128, kv .u8 159, iv 3])
  else bif z 0 == 240 then k (.tup [kv .u8 144, kv .u8 191, iv 3]) else bif z 0 == 244 then k (.tup [kv .u8 128, kv .u8 143, iv 3]) else k (.tup [kv .u8 128, kv .u8 191, iv 3]) else none else none else k (.tup [kv .u8 128, kv .u8 191, iv 3])
  else bif decide (0 < (n : Int)) then bif decide (0 < n) then bif decide (z 0 ≥ 240) then bif decide (0 < (n : Int)) then bif decide (0 < n) then bif decide (z 0 ≤ 244) then bif (n : Int) == 1 then
  bif decide (0 < (n : Int)) then bif decide (0 < n) then bif z 0 == 224 then k (.tup [kv .u8 160, kv .u8 191, iv 4]) else bif z 0 == 237 then k (.tup [kv .u8 128, kv .u8 159, iv 4]) else bif z 0 == 240
  then k (.tup [kv .u8 144, kv .u8 191, iv 4]) else bif z 0 == 244 then k (.tup [kv .u8 128, kv .u8 143, iv 4]) else k (.tup [kv .u8 128, kv .u8 191, iv 4]) else none else none else k (.tup [kv .u8 128, kv .u8 191, iv 4])
  else bif (n : Int) == 1 then bif decide (0 < (n : Int)) then bif decide (0 < n) then bif z 0 == 224 then k (.tup [kv .u8 160, kv .u8 191, iv 0]) else bif z 0 == 237 then k (.tup [kv .u8 128, kv .u8 159, iv 0])
  else bif z 0 == 240 then k (.tup [kv .u8 144, kv .u8 191, iv 0]) else bif z 0 == 244 then k (.tup [kv .u8 128, kv .u8 143, iv 0]) else k (.tup [kv .u8 128, kv .u8 191, iv 0]) else none else none else k (.tup [kv .u8 128, kv .u8 191, iv 0])
  else none else none else bif (n : Int) == 1 then bif decide (0 < (n : Int)) then bif decide (0 < n) then bif z 0 == 224 then k (.tup [kv .u8 160, kv .u8 191, iv 0]) else bif z 0 == 237 then k (.tup [kv .u8 128, kv .u8 159, iv 0])
  else bif z 0 == 240 then k (.tup [kv .u8 144, kv .u8 191, iv 0]) else bif z 0 == 244 then k (.tup [kv .u8 128, kv .u8 143, iv 0]) else k (.tup [kv .u8 128, kv .u8 191, iv 0]) else none else none else k (.tup [kv .u8 128, kv .u8 191, iv 0])
  else none else none else none else none else bif decide (0 < (n : Int)) then bif decide (0 < n) then bif decide (z 0 ≥ 240) then bif decide (0 < (n : Int)) then bif decide (0 < n) then bif decide (z 0 ≤ 244)
  then bif (n : Int) == 1 then bif decide (0 < (n : Int)) then bif decide (0 < n) then bif z 0 == 224 then k (.tup [kv .u8 160, kv .u8 191, iv 4]) else bif z 0 == 237 then k (.tup [kv .u8 128, kv .u8 159, iv 4])
  else bif z 0 == 240 then k (.tup [kv .u8 144, kv .u8 191, iv 4]) else bif z 0 == 244 then k (.tup [kv .u8 128, kv .u8 143, iv 4]) else k (.tup [kv .u8 128, kv .u8 191, iv 4]) else none else none else k (.tup [kv .u8 128, kv .u8 191, iv 4])
  else bif (n : Int) == 1 then bif decide (0 < (n : Int)) then bif decide (0 < n) then bif z 0 == 224 then k (.tup [kv .u8 160, kv .u8 191, iv 0]) else bif z 0 == 237 then k (.tup [kv .u8 128, kv .u8 159, iv 0])
  else bif z 0 == 240 then k (.tup [kv .u8 144, kv .u8 191, iv 0]) else bif z 0 == 244 then k (.tup [kv .u8 128, kv .u8 143, iv 0]) else k (.tup [kv .u8 128, kv .u8 191, iv 0]) else none else none else k (.tup [kv .u8 128, kv .u8 191, iv 0])
  else none else none else bif (n : Int) == 1 then bif decide (0 < (n : Int)) then bif decide (0 < n) then bif z 0 == 224 then k (.tup [kv .u8 160, kv .u8 191, iv 0]) else bif z 0 == 237 then k (.tup [kv .u8 128, kv .u8 159, iv 0])
  else bif z 0 == 240 then k (.tup [kv .u8 144, kv .u8 191, iv 0]) else bif z 0 == 244 then k (.tup [kv .u8 128, kv .u8 143, iv 0]) else k (.tup [kv .u8 128, kv .u8 191, iv 0]) else none else none else k (.tup [kv .u8 128, kv .u8 191, iv 0])
  else none else none else none else none else none else none := by
 kernel_rfl
/-- How long a sequence with this first byte is; the range of the byte that comes next. -/
def szF (p : Int) : Int :=

 bif decide (p ≥ 194) then (bif decide (p ≤ 223) then 2 else bif decide (p ≥ 224) then (bif decide (p ≤ 239) then 3 else bif decide (p ≥ 240) then (bif decide (p ≤ 244) then 4 else 0) else 0) else bif decide (p ≥ 240) then (bif decide (p ≤ 244) then 4 else 0) else 0)
 else bif decide (p ≥ 224) then (bif decide (p ≤ 239) then 3 else bif decide (p ≥ 240) then (bif decide (p ≤ 244) then 4 else 0) else 0) else bif decide (p ≥ 240) then (bif decide (p ≤ 244) then 4 else 0) else 0
def loF (p : Int) (n : Nat) : Int := bif (n : Int) == 1 then (bif p == 224 then 160 else bif p == 237 then 128 else bif p == 240 then 144 else 128) else 128
def hiF (p : Int) (n : Nat) : Int := bif (n : Int) == 1 then (bif p == 224 then 191 else bif p == 237 then 159 else bif p == 240 then 191 else bif p == 244 then 143 else 191) else 191
def limD (p : Int) (n : Nat) : DV := .tup [kv .u8 (loF p n), kv .u8 (hiF p n), iv (szF p)]
theorem lim_true (t : Bool) (z : Nat → Int) (n : Nat) (hn : 0 < n) : bodyD Tryz.prog (env [] noLp 0) Tryz.f103 [.sl t (rowI .u8 z) 1 n] [] (fun d _ => isD (limD (z 0) n) d) = some () := by
 refine (lim_tree t z n _).trans ?_
 have h0 : ((n : Int) == (0 : Int)) = false := by rw [beq_eq_false_iff_ne]; omega
 have h1 : decide ((0 : Int) < (n : Int)) = true := decide_eq_true (by omega)
 have h2 : decide (0 < n) = true := decide_eq_true hn
 simp only [h0, h1, h2, cond_true, cond_false]
 unfold limD loF hiF szF
 generalize z 0 = p
 clear h0 h1 h2
 repeat' (first | exact isD_of (by simp only [*, cond_true, cond_false]) | refine cS (fun h => ?_) (fun h => ?_))
noncomputable def limC : ConF := fun args k => match args with
 | [d] => rowK .u8 d fun z n => bif decide (0 < n) then k (fun _ => (limD (z 0) n, [])) else none
 | _ => none
theorem tup_clo {l : List DV} (h : l.all isV = true) : Clo (.tup l) ∧ Low (.tup l) := flR_clo (d := .tup l) (List.all_eq_true.2 fun d hd => by
 have := List.all_eq_true.1 h d hd
 cases d <;> first | rfl | cases this)
theorem limC_ok {st : AE.Stat} (hx : ∀ a σ, st.ext 103 a σ = none) : ConOk Tryz.prog st 103 limC := by
 refine con_flat (mg := []) (l := []) (lp := noLp) (n := 0) (glOk st) (fun _ h => nomatch h) Tryz.func103 (by kernel_rfl) (by kernel_rfl) hx (fun _ _ _ h => nomatch h) fun args k hk => ?_
 unfold limC at hk
 split at hk <;> first | (cases hk; done) | skip
 rename_i d
 obtain ⟨t, z, n, hk, hc⟩ := rowK_some hk
 obtain ⟨hn, hk⟩ := dec_none hk
 exact ⟨[.sl t (rowI .u8 z) 1 n], _, .cons hc .nil, tup_clo rfl, hk, lim_true t z n hn⟩
end Go.Proofs.YtfdldnomelnbgaaGreatDoor

namespace Go.Proofs.YtfdldnomelnbgaaGreatDoor
open Go Go.AE Go.DE Go.RowKit

theorem W_in {x : Int} (h1 : -9223372036854775808 ≤ x) (h2 : x ≤ 9223372036854775807) : IntKind.i64.wrap x = x := by
 rw [IntKind.wrap_i64]
 omega
def stepV (a b : Int) : Int := IntKind.i32.wrap (IntKind.i32.wrap (IntKind.i32.wrap (a * 64) + IntKind.i32.wrap b) - 128)
def valR (z : Nat → Int) : Nat → Nat → Int → Int
 | 0, _, a => a
 | m + 1, i, a => valR z m (i + 1) (stepV a (z i))
structure VX where
 t : Bool
 z : Nat → Int
 n : Nat
 i : Nat
 a : Int
def VX.r (x : VX) : Int := valR x.z (x.n - x.i) x.i x.a
def valI : LInv VX where
 pre x := x.n ≤ 9000000
 m := 0
 n := 44
 ps := [0, 3, 4]
 sd x := [.sl x.t (rowI .u8 x.z) 1 x.n, kv .i32 x.a, iv x.i]
 sh _ := []
 meas x := x.n - x.i
 e _ := .exit 1
 qs := [3]
 od x := [kv .i32 x.r]
 oh _ := []
 guess ds _ := match ds with
  | [.sl t g 1 n, .v (.int _ a), _] => some ⟨t, fun i => numD (g i 0), n, 1, a⟩
  | _ => none
 cps x k := k (.exit 1) [kv .i32 x.r] []
theorem val_loop (t : Bool) (z : Nat → Int) (n i : Nat) (a : Int) (K : Ex → Nat → List DV → List DV → DHeap → Option Unit) : execD Tryz.prog (env [] noLp 0) (loopAt Tryz.f104 122) 500 (temps 44 [0, 3, 4] [.sl t (rowI .u8 z) 1 n, kv .i32 a, iv i]) [] (fun e τ σ => K e τ.length (pick [0, 3, 4] τ) (pick [3] τ) σ) =
  bif decide ((i : Int) < (n : Int)) then bif decide ((i : Int) < (n : Int)) then bif decide (tN i < n) then K .normal 44 [.sl t (fun a a_1 => kv .u8 ((z a))) 1 n, kv .i32 ((IntKind.wrap .i32 (IntKind.wrap .i32 (IntKind.wrap .i32 (a * 64) + IntKind.wrap .i32 (z (tN i))) - 128))), iv (IntKind.wrap .i64 ((i : Int) + 1))] [kv .i32 ((IntKind.wrap .i32 (IntKind.wrap .i32 (IntKind.wrap .i32 (a * 64) + IntKind.wrap .i32 (z (tN i))) - 128)))] []
  else none else none else K (.exit 1) 44 [.sl t (fun a a_1 => kv .u8 ((z a))) 1 n, kv .i32 a, iv (i : Int)] [kv .i32 a] [] := by
 kernel_rfl
theorem wk0 {ids : List Nat} {ds ds2 : List DV} (tm : SubL (ren 0 ids) ds2 ds) (h : ids = []) : WkP 0 ids ds [] ds2 [] := by
 subst h
 exact .of (im := []) tm rfl trivial rfl (by decide)
theorem val_ls {st : AE.Stat} : LoopS Tryz.prog st gl0 (.loop (loopAt Tryz.f104 122)) valI.g := by
 refine valI.ok (E := env [] noLp 0) (p := 500) (tblD_env (l := []) (fun _ h => nomatch h)) (glOk st).1 (fun _ _ _ h => nomatch h) (fun x k h => h) fun x hx => ?_
 obtain ⟨t, z, n, i, a⟩ := x
 have hn : n ≤ 9000000 := hx
 refine (val_loop t z n i a _).trans ?_
 simp only [Int.toNat_natCast, Nat.add_zero]
 refine dS (fun h => ?_) fun h => ?_
 ·have h : i < n := by omega
  refine dT (by omega) (dT (by omega) (LInv.ask_of ⟨rfl, ⟨t, z, n, i + 1, stepV a (z i)⟩, ⟨rfl, ?_, rfl, hn⟩, ?_, [], wk0 ?_ rfl⟩))
  ·have : n - i = (n - (i + 1)) + 1 := by omega
   simp only [valI, VX.r, this, valR]
  ·simp only [valI]; omega
  ·rw [W_in (by omega) (by omega)]
   exact .cons (.sl _ _ _ _) (.cons (.v _) (.cons (.eq (by simp)) .nil))
 ·have h : n - i = 0 := by omega
  refine LInv.ask_of ⟨rfl, rfl, [], wk0 ?_ rfl⟩
  simp only [valI, VX.r, h, valR]
  exact .cons (.v _) .nil
theorem val_tree (t : Bool) (z : Nat → Int) (n : Nat) (k : DV → Option Unit) : bodyD Tryz.prog (env [] (lpOf [(122, valI.g)]) 0) Tryz.f104 [.sl t (rowI .u8 z) 1 n] [] (fun d _ => k d) =
  bif (n : Int) == 2 then bif decide (0 < (n : Int)) then bif decide (0 < n) then bif holds (Nat.le n 9000000 ∧ ∃ ids, WkP 0 ids [.sl t (fun a a_1 => kv .u8 ((z a))) 1 n, kv .i32 ((IntKind.wrap .i32 (IntKind.wrap .i32 (z 0) - 192))), iv 1] [] [.sl t (fun a a_1 => kv .u8 (((fun i => numD (kv .u8 ((z i)))) a))) 1 n, kv .i32 ((IntKind.wrap .i32 (IntKind.wrap .i32 (z 0) - 192))), iv 1] (LInv.sh valI { t := t, z := fun i => numD (kv .u8 ((z i))), n := n, i := 1, a := IntKind.wrap .i32 (IntKind.wrap .i32 (z 0) - 192) }))
  then k (kv .i32 ((VX.r { t := t, z := fun i => numD (kv .u8 ((z i))), n := n, i := 1, a := IntKind.wrap .i32 (IntKind.wrap .i32 (z 0) - 192) }))) else none else none else none else bif (n : Int) == 3
  then bif decide (0 < (n : Int)) then bif decide (0 < n) then bif holds (Nat.le n 9000000 ∧ ∃ ids, WkP 0 ids [.sl t (fun a a_1 => kv .u8 ((z a))) 1 n, kv .i32 ((IntKind.wrap .i32 (IntKind.wrap .i32 (z 0) - 224))), iv 1] [] [.sl t (fun a a_1 => kv .u8 (((fun i => numD (kv .u8 ((z i)))) a))) 1 n, kv .i32 ((IntKind.wrap .i32 (IntKind.wrap .i32 (z 0) - 224))), iv 1] (LInv.sh valI { t := t, z := fun i => numD (kv .u8 ((z i))), n := n, i := 1, a := IntKind.wrap .i32 (IntKind.wrap .i32 (z 0) - 224) }))
  then k (kv .i32 ((VX.r { t := t, z := fun i => numD (kv .u8 ((z i))), n := n, i := 1, a := IntKind.wrap .i32 (IntKind.wrap .i32 (z 0) - 224) }))) else none else none else none else bif (n : Int) == 4
  then bif decide (0 < (n : Int)) then bif decide (0 < n) then bif holds (Nat.le n 9000000 ∧ ∃ ids, WkP 0 ids [.sl t (fun a a_1 => kv .u8 ((z a))) 1 n, kv .i32 ((IntKind.wrap .i32 (IntKind.wrap .i32 (z 0) - 240))), iv 1] [] [.sl t (fun a a_1 => kv .u8 (((fun i => numD (kv .u8 ((z i)))) a))) 1 n, kv .i32 ((IntKind.wrap .i32 (IntKind.wrap .i32 (z 0) - 240))), iv 1] (LInv.sh valI { t := t, z := fun i => numD (kv .u8 ((z i))), n := n, i := 1, a := IntKind.wrap .i32 (IntKind.wrap .i32 (z 0) - 240) }))
  then k (kv .i32 ((VX.r { t := t, z := fun i => numD (kv .u8 ((z i))), n := n, i := 1, a := IntKind.wrap .i32 (IntKind.wrap .i32 (z 0) - 240) }))) else none else none else none else bif holds (Nat.le n 9000000 ∧ ∃ ids, WkP 0 ids [.sl t (fun a a_1 => kv .u8 ((z a))) 1 n, kv .i32 0, iv 1] [] [.sl t (fun a a_1 => kv .u8 (((fun i => numD (kv .u8 ((z i)))) a))) 1 n, kv .i32 0, iv 1] (LInv.sh valI { t := t, z := fun i => numD (kv .u8 ((z i))), n := n, i := 1, a := 0 }))
  then k (kv .i32 ((VX.r { t := t, z := fun i => numD (kv .u8 ((z i))), n := n, i := 1, a := 0 }))) else none := by
 kernel_rfl
def valA (z : Nat → Int) (n : Nat) : Int :=
 bif (n : Int) == 2 then IntKind.i32.wrap (IntKind.i32.wrap (z 0) - 192) else bif (n : Int) == 3 then IntKind.i32.wrap (IntKind.i32.wrap (z 0) - 224) else bif (n : Int) == 4 then IntKind.i32.wrap (IntKind.i32.wrap (z 0) - 240) else 0
def valF (z : Nat → Int) (n : Nat) : Int := valR z (n - 1) 1 (valA z n)
theorem val_true (t : Bool) (z : Nat → Int) (n : Nat) (hn : n ≤ 9000000) : bodyD Tryz.prog (env [] (lpOf [(122, valI.g)]) 0) Tryz.f104 [.sl t (rowI .u8 z) 1 n] [] (fun d _ => isD (kv .i32 (valF z n)) d) = some () := by
 refine (val_tree t z n _).trans ?_
 unfold valF valA
 refine cS (fun h => ?_) fun h => cS (fun h2 => ?_) fun h2 => cS (fun h3 => ?_) fun h3 => ?_
 ·have hn2 : (n : Int) = 2 := beq_iff_eq.1 h
  refine dT (by omega) (dT (by omega) (hT ⟨hn, [], wk0 (.cons (.sl _ _ _ _) (.cons (.v _) (.cons (.v _) .nil))) rfl⟩ (isD_of ?_)))
  rw [h, cond_true]
  rfl
 ·have hn2 : (n : Int) = 3 := beq_iff_eq.1 h2
  refine dT (by omega) (dT (by omega) (hT ⟨hn, [], wk0 (.cons (.sl _ _ _ _) (.cons (.v _) (.cons (.v _) .nil))) rfl⟩ (isD_of ?_)))
  rw [h, h2, cond_true, cond_false]
  rfl
 ·have hn2 : (n : Int) = 4 := beq_iff_eq.1 h3
  refine dT (by omega) (dT (by omega) (hT ⟨hn, [], wk0 (.cons (.sl _ _ _ _) (.cons (.v _) (.cons (.v _) .nil))) rfl⟩ (isD_of ?_)))
  rw [h, h2, h3, cond_true, cond_false, cond_false]
  rfl
 ·refine hT ⟨hn, [], wk0 (.cons (.sl _ _ _ _) (.cons (.v _) (.cons (.v _) .nil))) rfl⟩ (isD_of ?_)
  rw [h, h2, h3, cond_false, cond_false, cond_false]
  rfl
noncomputable def valC : ConF := fun args k => match args with
 | [d] => rowK .u8 d fun z n => bif decide (n ≤ 9000000) then k (fun _ => (kv .i32 (valF z n), [])) else none
 | _ => none
theorem v_clo (x : Value) : Clo (.v x) ∧ Low (.v x) := ⟨.v _, .v _⟩
theorem valC_ok {st : AE.Stat} (hx : ∀ a σ, st.ext 104 a σ = none) : ConOk Tryz.prog st 104 valC := by
 refine con_flat (mg := []) (l := []) (lp := lpOf [(122, valI.g)]) (n := 0) (glOk st) (fun _ h => nomatch h) Tryz.func104 (by kernel_rfl) (by kernel_rfl) hx (lp_one (by kernel_rfl) val_ls) fun args k hk => ?_
 unfold valC at hk
 split at hk <;> first | (cases hk; done) | skip
 rename_i d
 obtain ⟨t, z, n, hk, hc⟩ := rowK_some hk
 obtain ⟨hn, hk⟩ := dec_none hk
 exact ⟨[.sl t (rowI .u8 z) 1 n], _, .cons hc .nil, v_clo _, hk, val_true t z n hn⟩
end Go.Proofs.YtfdldnomelnbgaaGreatDoor
