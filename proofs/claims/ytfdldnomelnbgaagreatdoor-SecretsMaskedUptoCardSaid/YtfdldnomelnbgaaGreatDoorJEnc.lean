/-
 The contract of the reference's Encode: the bytes of characters.
 Conditions: none beyond those of the contract.
-/
import Derived.Test.YtfdldnomelnbgaaGreatDoorJDcd
namespace Go.Proofs.YtfdldnomelnbgaaGreatDoor
open Go Go.AE Go.DE Go.RowKit

abbrev enc1 (v : Int) : List Int := [IntKind.u8.wrap v]
abbrev enc2 (v : Int) : List Int := [IntKind.u8.wrap (IntKind.i32.wrap (192 + IntKind.i32.wrap (Int.tdiv v 64))), IntKind.u8.wrap (IntKind.i32.wrap (128 + Int.tmod v 64))]
abbrev enc3 (v : Int) : List Int := [IntKind.u8.wrap (IntKind.i32.wrap (224 + IntKind.i32.wrap (Int.tdiv v 4096))), IntKind.u8.wrap (IntKind.i32.wrap (128 + Int.tmod (IntKind.i32.wrap (Int.tdiv v 64)) 64)), IntKind.u8.wrap (IntKind.i32.wrap (128 + Int.tmod v 64))]
abbrev enc4 (v : Int) : List Int := [IntKind.u8.wrap (IntKind.i32.wrap (240 + IntKind.i32.wrap (Int.tdiv v 262144))), IntKind.u8.wrap (IntKind.i32.wrap (128 + Int.tmod (IntKind.i32.wrap (Int.tdiv v 4096)) 64)), IntKind.u8.wrap (IntKind.i32.wrap (128 + Int.tmod (IntKind.i32.wrap (Int.tdiv v 64)) 64)), IntKind.u8.wrap (IntKind.i32.wrap (128 + Int.tmod v 64))]
/-- The bytes of a character. -/
def enB (v : Int) : List Int :=
 if v < 0 then [239, 191, 189] else if v > 1114111 then [239, 191, 189] else if v ≥ 55296 ∧ v ≤ 57343 then [239, 191, 189]
 else if v < 128 then enc1 v else if v < 2048 then enc2 v else if v < 65536 then enc3 v else enc4 v
def enR (z : Nat → Int) : Nat → Nat → List Int → List Int
 | 0, _, b => b
 | m + 1, i, b => enR z m (i + 1) (b ++ enB (z i))
structure EX where
 t : Bool
 z : Nat → Int
 n : Nat
 i : Nat
 b : List Int
def EX.r (x : EX) : List Int := enR x.z (x.n - x.i) x.i x.b
def enI : LInv EX where
 pre x := x.i ≤ x.n ∧ x.n ≤ 9000000 ∧ x.b.length ≤ 4 * x.i
 m := 1
 n := 95
 ps := [0, 3, 4]
 sd x := [.sl x.t (rowI .i32 x.z) 1 x.n, .os 1 0 x.b.length, iv x.i]
 sh x := [none, some (lstB .u8 x.b)]
 meas x := x.n - x.i
 e _ := .exit 0
 qs := [3]
 od x := [.os 1 0 x.r.length]
 oh x := [none, some (lstB .u8 x.r)]
 guess ds _ := match ds with
  | [.sl t g 1 n, _, _] => some ⟨t, fun i => numD (g i 0), n, 0, []⟩
  | _ => none
 cps x k := k (.exit 0) [.os 1 0 x.r.length] [none, some (lstB .u8 x.r)]
theorem enc_loop (t : Bool) (z : Nat → Int) (n i nb : Nat) (wb : Nat → Int) (K : Ex → Nat → List DV → List DV → DHeap → Option Unit) : execD Tryz.prog (env [] noLp 0) (loopAt Tryz.f83 58) 500 (temps 95 [0, 3, 4] [.sl t (rowI .i32 z) 1 n, .os 1 0 nb, iv i]) [none, some ⟨1, .tab nb (rowI .u8 wb)⟩] (fun e τ σ => K e τ.length (pick [0, 3, 4] τ) (pick [3] τ) σ) =
  bif decide ((i : Int) < (n : Int)) then bif decide ((i : Int) < (n : Int)) then bif decide (tN i < n) then bif decide (z (tN i) < 0) then bif decide (nb ≤ DC.n (.tab nb (rowI IntKind.u8 wb))) then
  bif decide ((nb + 3) * 1 ≤ 140737488355328) then K .normal 95 [.sl t (fun a a_1 => kv .i32 ((z a))) 1 n, .os 3 0 (nb + 3), iv (IntKind.wrap .i64 ((i : Int) + 1))] [.os 3 0 (nb + 3)] [none, none, some ⟨1, .lst [[kv .u8 239], [kv .u8 191], [kv .u8 189]]⟩, some ⟨1, .app (.pre (.tab nb fun a a_1 => kv .u8 ((wb a))) nb) (.lst [[kv .u8 239], [kv .u8 191], [kv .u8 189]])⟩]
  else none else none else bif decide (z (tN i) > 1114111) then bif decide (nb ≤ DC.n (.tab nb (rowI IntKind.u8 wb))) then bif decide ((nb + 3) * 1 ≤ 140737488355328) then K .normal 95 [.sl t (fun a a_1 => kv .i32 ((z a))) 1 n, .os 3 0 (nb + 3), iv (IntKind.wrap .i64 ((i : Int) + 1))] [.os 3 0 (nb + 3)] [none, none, some ⟨1, .lst [[kv .u8 239], [kv .u8 191], [kv .u8 189]]⟩, some ⟨1, .app (.pre (.tab nb fun a a_1 => kv .u8 ((wb a))) nb) (.lst [[kv .u8 239], [kv .u8 191], [kv .u8 189]])⟩]
  else none else none else bif decide (z (tN i) ≥ 55296) then bif decide (z (tN i) ≤ 57343) then bif decide (nb ≤ DC.n (.tab nb (rowI IntKind.u8 wb))) then bif decide ((nb + 3) * 1 ≤ 140737488355328)
  then K .normal 95 [.sl t (fun a a_1 => kv .i32 ((z a))) 1 n, .os 3 0 (nb + 3), iv (IntKind.wrap .i64 ((i : Int) + 1))] [.os 3 0 (nb + 3)] [none, none, some ⟨1, .lst [[kv .u8 239], [kv .u8 191], [kv .u8 189]]⟩, some ⟨1, .app (.pre (.tab nb fun a a_1 => kv .u8 ((wb a))) nb) (.lst [[kv .u8 239], [kv .u8 191], [kv .u8 189]])⟩]
  else none else none else bif decide (z (tN i) < 128) then bif decide (nb ≤ DC.n (.tab nb (rowI IntKind.u8 wb))) then bif decide ((nb + 1) * 1 ≤ 140737488355328) then K .normal 95 [.sl t (fun a a_1 => kv .i32 ((z a))) 1 n, .os 3 0 (nb + 1), iv (IntKind.wrap .i64 ((i : Int) + 1))] [.os 3 0 (nb + 1)] [none, none, some ⟨1, .lst [[kv .u8 ((IntKind.wrap .u8 (z (tN i))))]]⟩, some ⟨1, .app (.pre (.tab nb fun a a_1 => kv .u8 ((wb a))) nb) (.lst [[kv .u8 ((IntKind.wrap .u8 (z (tN i))))]])⟩]
  else none else none else bif decide (z (tN i) < 2048) then bif decide (nb ≤ DC.n (.tab nb (rowI IntKind.u8 wb))) then bif decide ((nb + 2) * 1 ≤ 140737488355328) then K .normal 95 [.sl t (fun a a_1 => kv .i32 ((z a))) 1 n, .os 3 0 (nb + 2), iv (IntKind.wrap .i64 ((i : Int) + 1))] [.os 3 0 (nb + 2)] [none, none, some ⟨1, .lst [[kv .u8 ((IntKind.wrap .u8 (IntKind.wrap .i32 (192 + IntKind.wrap .i32 (Int.tdiv (z (tN i)) 64)))))], [kv .u8 ((IntKind.wrap .u8 (IntKind.wrap .i32 (128 + Int.tmod (z (tN i)) 64))))]]⟩, some ⟨1, .app (.pre (.tab nb fun a a_1 => kv .u8 ((wb a))) nb) (.lst [[kv .u8 ((IntKind.wrap .u8 (IntKind.wrap .i32 (192 + IntKind.wrap .i32 (Int.tdiv (z (tN i)) 64)))))], [kv .u8 ((IntKind.wrap .u8 (IntKind.wrap .i32 (128 + Int.tmod (z (tN i)) 64))))]])⟩]
  else none else none else bif decide (z (tN i) < 65536) then bif decide (nb ≤ DC.n (.tab nb (rowI IntKind.u8 wb))) then bif decide ((nb + 3) * 1 ≤ 140737488355328) then K .normal 95 [.sl t (fun a a_1 => kv .i32 ((z a))) 1 n, .os 3 0 (nb + 3), iv (IntKind.wrap .i64 ((i : Int) + 1))] [.os 3 0 (nb + 3)] [none, none, some ⟨1, .lst [[kv .u8 ((IntKind.wrap .u8 (IntKind.wrap .i32 (224 + IntKind.wrap .i32 (Int.tdiv (z (tN i)) 4096)))))], [kv .u8 ((IntKind.wrap .u8 (IntKind.wrap .i32 (128 + Int.tmod (IntKind.wrap .i32 (Int.tdiv (z (tN i)) 64)) 64))))], [kv .u8 ((IntKind.wrap .u8 (IntKind.wrap .i32 (128 + Int.tmod (z (tN i)) 64))))]]⟩, some ⟨1, .app (.pre (.tab nb fun a a_1 => kv .u8 ((wb a))) nb) (.lst [[kv .u8 ((IntKind.wrap .u8 (IntKind.wrap .i32 (224 + IntKind.wrap .i32 (Int.tdiv (z (tN i)) 4096)))))], [kv .u8 ((IntKind.wrap .u8 (IntKind.wrap .i32 (128 + Int.tmod (IntKind.wrap .i32 (Int.tdiv (z (tN i)) 64)) 64))))], [kv .u8 ((IntKind.wrap .u8 (IntKind.wrap .i32 (128 + Int.tmod (z (tN i)) 64))))]])⟩]
  else none else none else bif decide (nb ≤ DC.n (.tab nb (rowI IntKind.u8 wb))) then bif decide ((nb + 4) * 1 ≤ 140737488355328) then K .normal 95 [.sl t (fun a a_1 => kv .i32 ((z a))) 1 n, .os 3 0 (nb + 4), iv (IntKind.wrap .i64 ((i : Int) + 1))] [.os 3 0 (nb + 4)] [none, none, some ⟨1, .lst [[kv .u8 ((IntKind.wrap .u8 (IntKind.wrap .i32 (240 + IntKind.wrap .i32 (Int.tdiv (z (tN i)) 262144)))))], [kv .u8 ((IntKind.wrap .u8 (IntKind.wrap .i32 (128 + Int.tmod (IntKind.wrap .i32 (Int.tdiv (z (tN i)) 4096)) 64))))], [kv .u8 ((IntKind.wrap .u8 (IntKind.wrap .i32 (128 + Int.tmod (IntKind.wrap .i32 (Int.tdiv (z (tN i)) 64)) 64))))], [kv .u8 ((IntKind.wrap .u8 (IntKind.wrap .i32 (128 + Int.tmod (z (tN i)) 64))))]]⟩, some ⟨1, .app (.pre (.tab nb fun a a_1 => kv .u8 ((wb a))) nb) (.lst [[kv .u8 ((IntKind.wrap .u8 (IntKind.wrap .i32 (240 + IntKind.wrap .i32 (Int.tdiv (z (tN i)) 262144)))))], [kv .u8 ((IntKind.wrap .u8 (IntKind.wrap .i32 (128 + Int.tmod (IntKind.wrap .i32 (Int.tdiv (z (tN i)) 4096)) 64))))], [kv .u8 ((IntKind.wrap .u8 (IntKind.wrap .i32 (128 + Int.tmod (IntKind.wrap .i32 (Int.tdiv (z (tN i)) 64)) 64))))], [kv .u8 ((IntKind.wrap .u8 (IntKind.wrap .i32 (128 + Int.tmod (z (tN i)) 64))))]])⟩]
  else none else none else bif decide (z (tN i) < 128) then bif decide (nb ≤ DC.n (.tab nb (rowI IntKind.u8 wb))) then bif decide ((nb + 1) * 1 ≤ 140737488355328) then K .normal 95 [.sl t (fun a a_1 => kv .i32 ((z a))) 1 n, .os 3 0 (nb + 1), iv (IntKind.wrap .i64 ((i : Int) + 1))] [.os 3 0 (nb + 1)] [none, none, some ⟨1, .lst [[kv .u8 ((IntKind.wrap .u8 (z (tN i))))]]⟩, some ⟨1, .app (.pre (.tab nb fun a a_1 => kv .u8 ((wb a))) nb) (.lst [[kv .u8 ((IntKind.wrap .u8 (z (tN i))))]])⟩]
  else none else none else bif decide (z (tN i) < 2048) then bif decide (nb ≤ DC.n (.tab nb (rowI IntKind.u8 wb))) then bif decide ((nb + 2) * 1 ≤ 140737488355328) then K .normal 95 [.sl t (fun a a_1 => kv .i32 ((z a))) 1 n, .os 3 0 (nb + 2), iv (IntKind.wrap .i64 ((i : Int) + 1))] [.os 3 0 (nb + 2)] [none, none, some ⟨1, .lst [[kv .u8 ((IntKind.wrap .u8 (IntKind.wrap .i32 (192 + IntKind.wrap .i32 (Int.tdiv (z (tN i)) 64)))))], [kv .u8 ((IntKind.wrap .u8 (IntKind.wrap .i32 (128 + Int.tmod (z (tN i)) 64))))]]⟩, some ⟨1, .app (.pre (.tab nb fun a a_1 => kv .u8 ((wb a))) nb) (.lst [[kv .u8 ((IntKind.wrap .u8 (IntKind.wrap .i32 (192 + IntKind.wrap .i32 (Int.tdiv (z (tN i)) 64)))))], [kv .u8 ((IntKind.wrap .u8 (IntKind.wrap .i32 (128 + Int.tmod (z (tN i)) 64))))]])⟩]
  else none else none else bif decide (z (tN i) < 65536) then bif decide (nb ≤ DC.n (.tab nb (rowI IntKind.u8 wb))) then bif decide ((nb + 3) * 1 ≤ 140737488355328) then K .normal 95 [.sl t (fun a a_1 => kv .i32 ((z a))) 1 n, .os 3 0 (nb + 3), iv (IntKind.wrap .i64 ((i : Int) + 1))] [.os 3 0 (nb + 3)] [none, none, some ⟨1, .lst [[kv .u8 ((IntKind.wrap .u8 (IntKind.wrap .i32 (224 + IntKind.wrap .i32 (Int.tdiv (z (tN i)) 4096)))))], [kv .u8 ((IntKind.wrap .u8 (IntKind.wrap .i32 (128 + Int.tmod (IntKind.wrap .i32 (Int.tdiv (z (tN i)) 64)) 64))))], [kv .u8 ((IntKind.wrap .u8 (IntKind.wrap .i32 (128 + Int.tmod (z (tN i)) 64))))]]⟩, some ⟨1, .app (.pre (.tab nb fun a a_1 => kv .u8 ((wb a))) nb) (.lst [[kv .u8 ((IntKind.wrap .u8 (IntKind.wrap .i32 (224 + IntKind.wrap .i32 (Int.tdiv (z (tN i)) 4096)))))], [kv .u8 ((IntKind.wrap .u8 (IntKind.wrap .i32 (128 + Int.tmod (IntKind.wrap .i32 (Int.tdiv (z (tN i)) 64)) 64))))], [kv .u8 ((IntKind.wrap .u8 (IntKind.wrap .i32 (128 + Int.tmod (z (tN i)) 64))))]])⟩]
  else none else none else bif decide (nb ≤ DC.n (.tab nb (rowI IntKind.u8 wb))) then bif decide ((nb + 4) * 1 ≤ 140737488355328) then K .normal 95 [.sl t (fun a a_1 => kv .i32 ((z a))) 1 n, .os 3 0 (nb + 4), iv (IntKind.wrap .i64 ((i : Int) + 1))] [.os 3 0 (nb + 4)] [none, none, some ⟨1, .lst [[kv .u8 ((IntKind.wrap .u8 (IntKind.wrap .i32 (240 + IntKind.wrap .i32 (Int.tdiv (z (tN i)) 262144)))))], [kv .u8 ((IntKind.wrap .u8 (IntKind.wrap .i32 (128 + Int.tmod (IntKind.wrap .i32 (Int.tdiv (z (tN i)) 4096)) 64))))], [kv .u8 ((IntKind.wrap .u8 (IntKind.wrap .i32 (128 + Int.tmod (IntKind.wrap .i32 (Int.tdiv (z (tN i)) 64)) 64))))], [kv .u8 ((IntKind.wrap .u8 (IntKind.wrap .i32 (128 + Int.tmod (z (tN i)) 64))))]]⟩, some ⟨1, .app (.pre (.tab nb fun a a_1 => kv .u8 ((wb a))) nb) (.lst [[kv .u8 ((IntKind.wrap .u8 (IntKind.wrap .i32 (240 + IntKind.wrap .i32 (Int.tdiv (z (tN i)) 262144)))))], [kv .u8 ((IntKind.wrap .u8 (IntKind.wrap .i32 (128 + Int.tmod (IntKind.wrap .i32 (Int.tdiv (z (tN i)) 4096)) 64))))], [kv .u8 ((IntKind.wrap .u8 (IntKind.wrap .i32 (128 + Int.tmod (IntKind.wrap .i32 (Int.tdiv (z (tN i)) 64)) 64))))], [kv .u8 ((IntKind.wrap .u8 (IntKind.wrap .i32 (128 + Int.tmod (z (tN i)) 64))))]])⟩]
  else none else none else none else none else K (.exit 0) 95 [.sl t (fun a a_1 => kv .i32 ((z a))) 1 n, .os 1 0 nb, iv (i : Int)] [.os 1 0 nb] [none, some ⟨1, .tab nb fun a a_1 => kv .u8 ((wb a))⟩] := by
 kernel_rfl
theorem en_ls {st : AE.Stat} : LoopS Tryz.prog st gl0 (.loop (loopAt Tryz.f83 58)) enI.g := by
 refine enI.ok (E := env [] noLp 0) (p := 500) (tblD_env (l := []) (fun _ h => nomatch h)) (glOk st).1 (fun _ _ _ h => nomatch h) (fun x k h => h) fun x hx => ?_
 obtain ⟨t, z, n, i, b⟩ := x
 obtain ⟨h1, h2, h3⟩ : i ≤ n ∧ n ≤ 9000000 ∧ b.length ≤ 4 * i := hx
 refine (enc_loop t z n i b.length (lw b) _).trans ?_
 simp only [Int.toNat_natCast, Nat.add_zero]
 refine dS (fun hlt => ?_) fun hge => ?_
 ·have hlt : i < n := by omega
  have hW : IntKind.i64.wrap ((i : Int) + 1) = ((i + 1 : Nat) : Int) := by rw [W_in (by omega) (by omega)]; omega
  rw [hW]
  have hn : b.length ≤ DC.n (DC.tab b.length (rowI IntKind.u8 (lw b))) := Nat.le_refl _
  have next : ∀ (M : List Int) (m : Nat) (x : DBlk), enB (z i) = M → M.length = m → m ≤ 4 → enI.ask ⟨t, z, n, i, b⟩ .normal 95 [.sl t (rowI .i32 z) 1 n, .os 3 0 (b.length + m), iv ((i + 1 : Nat) : Int)] [.os 3 0 (b.length + m)]
    [none, none, some x, some ⟨1, .app (.pre (.tab b.length (rowI .u8 (lw b))) b.length) (.lst (M.map fun v => [kv .u8 v]))⟩] = some () := fun M m x hM hm hm4 => by
   subst hm
   have hr : EX.r ⟨t, z, n, i + 1, b ++ M⟩ = EX.r ⟨t, z, n, i, b⟩ := by
    have : n - i = (n - (i + 1)) + 1 := by omega
    simp only [EX.r, this, enR, hM]
   refine LInv.ask_of ⟨rfl, ⟨t, z, n, i + 1, b ++ M⟩, ⟨rfl, by simp only [enI, hr], by simp only [enI, hr], ⟨hlt, h2, ?_⟩⟩, ?_, [3], ?_⟩
   ·simp only [List.length_append]; omega
   ·simp only [enI]; omega
   ·show WkP 1 [3] _ _ [.sl t (rowI .i32 z) 1 n, .os 1 0 (b ++ M).length, iv ((i + 1 : Nat) : Int)] [none, some (lstB .u8 (b ++ M))]
    rw [List.length_append]
    exact .of (im := [some 3]) (.cons (.sl _ _ _ _) (.cons (.os rfl) (.cons (.v _) .nil))) rfl ⟨⟨3, _, rfl, rfl, (HasL.app rfl .tab (.lst M)).sub⟩, trivial⟩ rfl (by decide)
  refine dT (by omega) (dT hlt ?_)
  unfold enB at next
  refine dS (fun a1 => ?_) fun a1 => dS (fun a2 => ?_) fun a2 => dS (fun a3 => dS (fun a4 => ?_) fun a4 => ?_) fun a3 => ?_
  ·exact dT hn (dT (by omega) (next [239, 191, 189] 3 _ (by rw [if_pos a1]) rfl (by decide)))
  ·exact dT hn (dT (by omega) (next [239, 191, 189] 3 _ (by rw [if_neg a1, if_pos a2]) rfl (by decide)))
  ·exact dT hn (dT (by omega) (next [239, 191, 189] 3 _ (by rw [if_neg a1, if_neg a2, if_pos ⟨a3, a4⟩]) rfl (by decide)))
  ·have a34 : ¬ (z i ≥ 55296 ∧ z i ≤ 57343) := fun h => a4 h.2
   refine dS (fun a5 => ?_) fun a5 => dS (fun a6 => ?_) fun a6 => dS (fun a7 => ?_) fun a7 => ?_
   ·exact dT hn (dT (by omega) (next (enc1 (z i)) 1 _ (by rw [if_neg a1, if_neg a2, if_neg a34, if_pos a5]) rfl (by decide)))
   ·exact dT hn (dT (by omega) (next (enc2 (z i)) 2 _ (by rw [if_neg a1, if_neg a2, if_neg a34, if_neg a5, if_pos a6]) rfl (by decide)))
   ·exact dT hn (dT (by omega) (next (enc3 (z i)) 3 _ (by rw [if_neg a1, if_neg a2, if_neg a34, if_neg a5, if_neg a6, if_pos a7]) rfl (by decide)))
   ·exact dT hn (dT (by omega) (next (enc4 (z i)) 4 _ (by rw [if_neg a1, if_neg a2, if_neg a34, if_neg a5, if_neg a6, if_neg a7]) rfl (by decide)))
  ·have a34 : ¬ (z i ≥ 55296 ∧ z i ≤ 57343) := fun h => a3 h.1
   refine dS (fun a5 => ?_) fun a5 => dS (fun a6 => ?_) fun a6 => dS (fun a7 => ?_) fun a7 => ?_
   ·exact dT hn (dT (by omega) (next (enc1 (z i)) 1 _ (by rw [if_neg a1, if_neg a2, if_neg a34, if_pos a5]) rfl (by decide)))
   ·exact dT hn (dT (by omega) (next (enc2 (z i)) 2 _ (by rw [if_neg a1, if_neg a2, if_neg a34, if_neg a5, if_pos a6]) rfl (by decide)))
   ·exact dT hn (dT (by omega) (next (enc3 (z i)) 3 _ (by rw [if_neg a1, if_neg a2, if_neg a34, if_neg a5, if_neg a6, if_pos a7]) rfl (by decide)))
   ·exact dT hn (dT (by omega) (next (enc4 (z i)) 4 _ (by rw [if_neg a1, if_neg a2, if_neg a34, if_neg a5, if_neg a6, if_neg a7]) rfl (by decide)))
 ·obtain rfl : i = n := by omega
  have hr : EX.r ⟨t, z, i, i, b⟩ = b := by simp only [EX.r, Nat.sub_self, enR]
  refine LInv.ask_of ⟨rfl, rfl, [1], ?_⟩
  simp only [enI, hr]
  exact .of (im := [some 1]) (.cons (.os rfl) .nil) rfl ⟨⟨1, _, rfl, rfl, HasL.tab.sub⟩, trivial⟩ rfl (by decide)
theorem enc_tree (t : Bool) (z : Nat → Int) (n : Nat) (k : DV → Option Unit) : bodyD Tryz.prog (env [] (lpOf [(58, enI.g)]) 0) Tryz.f83 [.sl t (rowI .i32 z) 1 n] [] (fun d _ => k d) =
  bif holds ((Nat.le 0 n ∧ Nat.le n 9000000 ∧ Nat.le 0 0) ∧ ∃ ids, WkP 1 ids [.sl t (fun a a_1 => kv .i32 ((z a))) 1 n, .os 0 0 0, iv 0] [some ⟨1, .lst []⟩] [.sl t (fun a a_1 => kv .i32 (((fun i => numD (kv .i32 ((z i)))) a))) 1 n, .os 1 0 0, iv 0] [none, some ⟨1, .tab 0 fun a a_1 => kv .u8 ((lw [] a))⟩])
  then bif decide (0 + List.length (EX.r { t := t, z := fun i => numD (kv .i32 ((z i))), n := n, i := 0, b := [] }) ≤ DC.n (DBlk.c (lstB IntKind.u8 (EX.r { t := t, z := fun i => numD (kv .i32 ((z i))), n := n, i := 0, b := [] }))))
  then bif intsD IntKind.u8 (List.length (EX.r { t := t, z := fun i => numD (kv .i32 ((z i))), n := n, i := 0, b := [] })) (subC (DBlk.c (lstB IntKind.u8 (EX.r { t := t, z := fun i => numD (kv .i32 ((z i))), n := n, i := 0, b := [] }))) 0 (List.length (EX.r { t := t, z := fun i => numD (kv .i32 ((z i))), n := n, i := 0, b := [] })))
  then k (sv (bytesS (List.length (EX.r { t := t, z := fun i => numD (kv .i32 ((z i))), n := n, i := 0, b := [] })) fun j => numD (kv .u8 ((lw (EX.r { t := t, z := fun i => numD (kv .i32 ((z i))), n := n, i := 0, b := [] }) (0 + j))))))
  else none else none else none := by
 kernel_rfl
/-- What Encode answers. -/
def encF (z : Nat → Int) (n : Nat) : ByteArray := bytesS (enR z n 0 []).length (lw (enR z n 0 []))
theorem enc_true (t : Bool) (z : Nat → Int) (n : Nat) (hn : n ≤ 9000000) : bodyD Tryz.prog (env [] (lpOf [(58, enI.g)]) 0) Tryz.f83 [.sl t (rowI .i32 z) 1 n] [] (fun d _ => isD (sv (encF z n)) d) = some () := by
 refine (enc_tree t z n _).trans (hT ⟨⟨Nat.zero_le _, hn, Nat.le_refl _⟩, [0], ?_⟩ (dT ?_ (cT ?_ (isD_of ?_))))
 ·exact .of (im := [some 0]) (.cons (.sl _ _ _ _) (.cons (.os rfl) (.cons (.v _) .nil))) rfl ⟨⟨0, _, rfl, rfl, (HasL.nil (q := .u8) (c := .lst []) trivial).sub⟩, trivial⟩ rfl (by decide)
 ·rw [Nat.zero_add]
  exact Nat.le_refl _
 ·refine intsD_iff.2 fun j hj => ?_
  rw [subC_get hj, Nat.zero_add]
  rfl
 ·simp only [Nat.zero_add]
  rfl
noncomputable def encC : ConF := fun args k => match args with
 | [d] => rowK .i32 d fun z n => bif decide (n ≤ 9000000) then k (fun _ => (sv (encF z n), [])) else none
 | _ => none
theorem encC_ok {st : AE.Stat} (hx : ∀ f, exA f = false → ∀ a σ, st.ext f a σ = none) : ConOk Tryz.prog st 83 encC := by
 refine con_flat (mg := []) (l := []) (lp := lpOf [(58, enI.g)]) (n := 0) (glOk st) (fun _ h => nomatch h) Tryz.func83 (by kernel_rfl) (by kernel_rfl) (hx 83 rfl) (lp_one (by kernel_rfl) en_ls) fun args k hk => ?_
 unfold encC at hk
 split at hk <;> first | (cases hk; done) | skip
 rename_i d
 obtain ⟨t, z, n, hk, hc⟩ := rowK_some hk
 obtain ⟨hn, hk⟩ := dec_none hk
 exact ⟨[.sl t (rowI .i32 z) 1 n], _, .cons hc .nil, v_clo _, hk, enc_true t z n hn⟩
end Go.Proofs.YtfdldnomelnbgaaGreatDoor
