/-
 The contract of the reference's Decode: the characters of a chunk of bytes, and what is left over.
 Conditions: none beyond those of the contract.

 The contract of the reference's Decode, whole, and of what is built on it: Valid, Characters.
 Conditions: none beyond those of the contracts.
-/
import Derived.Test.YtfdldnomelnbgaaGreatDoorJDec
namespace Go.Proofs.YtfdldnomelnbgaaGreatDoor
open Go Go.AE Go.DE Go.RowKit

noncomputable abbrev dcL : List (FuncId × ConF) := [(103, limC), (104, valC)]
/-- One round. -/
def dstep (s : ByteArray) (i : Nat) (o k : List Int) : Nat × List Int × List Int :=
 if k = [] then (if byteAt s i < 128 then (i + 1, o ++ [IntKind.i32.wrap (byteAt s i)], []) else if szF (byteAt s i) > 0 then (i + 1, o, [byteAt s i]) else (i + 1, o ++ [65533], []))
 else if byteAt s i < loF (lw k 0) k.length then (i, o ++ [65533], [])
 else if byteAt s i > hiF (lw k 0) k.length then (i, o ++ [65533], [])
 else if ((k.length + 1 : Nat) : Int) = szF (lw k 0) then (i + 1, o ++ [valF (lw (k ++ [byteAt s i])) (k.length + 1)], []) else (i + 1, o, k ++ [byteAt s i])
def decR (s : ByteArray) : Nat → Nat → List Int → List Int → List Int × List Int
 | 0, _, o, k => (o, k)
 | m + 1, i, o, k => if i < s.size then decR s m (dstep s i o k).1 (dstep s i o k).2.1 (dstep s i o k).2.2 else (o, k)
def dmeas (s : ByteArray) (i : Nat) (k : List Int) : Nat := 2 * (s.size - i) + (if k = [] then 0 else 1)
theorem dstep_meas {s : ByteArray} {i : Nat} (o k : List Int) (h : i < s.size) : dmeas s (dstep s i o k).1 (dstep s i o k).2.2 < dmeas s i k := by
 unfold dstep dmeas
 by_cases hk : k = []
 ·rw [if_pos hk, if_pos hk]
  split
  ·simp; omega
  ·split
   ·simp; omega
   ·simp; omega
 ·rw [if_neg hk, if_neg hk]
  split
  ·simp
  ·split
   ·simp
   ·split
    ·simp; omega
    ·simp; omega
theorem decR_fuel (s : ByteArray) : ∀ (m m' i : Nat) (o k : List Int), dmeas s i k ≤ m → dmeas s i k ≤ m' → decR s m i o k = decR s m' i o k
 | 0, 0, i, o, k, _, _ => rfl
 | 0, m' + 1, i, o, k, h, _ => by
  have : ¬ i < s.size := by unfold dmeas at h; omega
  rw [decR, decR, if_neg this]
 | m + 1, 0, i, o, k, _, h => by
  have : ¬ i < s.size := by unfold dmeas at h; omega
  rw [decR, decR, if_neg this]
 | m + 1, m' + 1, i, o, k, h, h' => by
  rw [decR, decR]
  by_cases hi : i < s.size
  ·rw [if_pos hi, if_pos hi]
   have := dstep_meas o k hi
   exact decR_fuel s m m' _ _ _ (by omega) (by omega)
  ·rw [if_neg hi, if_neg hi]
structure DX where
 s : ByteArray
 i : Nat
 o : List Int
 k : List Int
def DX.r (x : DX) : List Int × List Int := decR x.s (dmeas x.s x.i x.k) x.i x.o x.k
theorem DX.step {s : ByteArray} {i i' : Nat} {o k o' k' : List Int} (h : i < s.size) (hs : dstep s i o k = (i', o', k')) : DX.r ⟨s, i', o', k'⟩ = DX.r ⟨s, i, o, k⟩ ∧ dmeas s i' k' < dmeas s i k := by
 have hm := dstep_meas o k h
 rw [hs] at hm
 refine ⟨?_, hm⟩
 have h0 : 0 < dmeas s i k := by simp only at hm; omega
 obtain ⟨m, e⟩ : ∃ m, dmeas s i k = m + 1 := ⟨dmeas s i k - 1, by omega⟩
 simp only [DX.r]
 rw [e, decR, if_pos h, hs]
 exact decR_fuel s _ _ _ _ _ (Nat.le_refl _) (by simp only at hm ⊢; omega)
def DX.ok (x : DX) : Prop := x.i ≤ x.s.size ∧ x.s.size ≤ 9000000 ∧ x.o.length + min 1 x.k.length ≤ x.i ∧ x.k.length ≤ x.i
def dcI : LInv DX where
 pre := DX.ok
 m := 2
 n := 96
 ps := [6, 7, 8, 9]
 sd x := [sv x.s, .os 2 0 x.o.length, .os 3 0 x.k.length, iv x.i]
 sh x := [none, none, some (lstB .i32 x.o), some (lstB .u8 x.k)]
 meas x := dmeas x.s x.i x.k
 e _ := .exit 0
 qs := [7, 8]
 od x := [.os 2 0 x.r.1.length, .os 3 0 x.r.2.length]
 oh x := [none, none, some (lstB .i32 x.r.1), some (lstB .u8 x.r.2)]
 guess ds _ := match ds with
  | [.v (.string s), _, _, _] => some ⟨s, 0, [], []⟩
  | _ => none
 cps x k := k (.exit 0) [.os 2 0 x.r.1.length, .os 3 0 x.r.2.length] [none, none, some (lstB .i32 x.r.1), some (lstB .u8 x.r.2)]
theorem dcd_loop (s : ByteArray) (no nk i : Nat) (wo wk : Nat → Int) (K : Ex → Nat → List DV → List DV → DHeap → Option Unit) : execD Tryz.prog (env dcL noLp 0) (loopAt Tryz.f82 250) 500 (temps 96 [6, 7, 8, 9] [sv s, .os 2 0 no, .os 3 0 nk, iv i]) [none, none, some ⟨1, .tab no (rowI .i32 wo)⟩, some ⟨1, .tab nk (rowI .u8 wk)⟩] (fun e τ σ => K e τ.length (pick [6, 7, 8, 9] τ) (pick [7, 8] τ) σ) =
  bif decide ((i : Int) < (↑(ByteArray.size s) : Int)) then bif decide ((i : Int) < (↑(ByteArray.size s) : Int)) then bif (nk : Int) == 0 then bif holds (∀ (i_1 : Nat), i_1 < 1 → (fun j f => lend1 (DC.get (DBlk.c (blockOf 1 [kv .u8 ((byteAt s (Int.toNat (i : Int))))])) (0 + j) f)) i_1 0 = kv .u8 ((numD ((fun j f => lend1 (DC.get (DBlk.c (blockOf 1 [kv .u8 ((byteAt s (Int.toNat (i : Int))))])) (0 + j) f)) i_1 0))))
  then bif decide (byteAt s (Int.toNat (i : Int)) < 128) then bif decide (no ≤ DC.n (.tab no (rowI IntKind.i32 wo))) then bif decide ((no + 1) * 4 ≤ 140737488355328) then K .normal 96 [sv s, .os 6 0 (no + 1), .os 3 0 nk, iv (IntKind.wrap .i64 ((i : Int) + 1))] [.os 6 0 (no + 1), .os 3 0 nk] [none, none, none, some ⟨1, .tab nk fun a a_1 => kv .u8 ((wk a))⟩, some ⟨1, .lst [[kv .u8 ((byteAt s (Int.toNat (i : Int))))]]⟩, some ⟨1, .lst [[kv .i32 ((IntKind.wrap .i32 (byteAt s (Int.toNat (i : Int)))))]]⟩, some ⟨1, .app (.pre (.tab no fun a a_1 => kv .i32 ((wo a))) no) (.lst [[kv .i32 ((IntKind.wrap .i32 (byteAt s (Int.toNat (i : Int)))))]])⟩]
  else none else none else bif decide (szF ((fun i_1 => numD ((fun j f => lend1 (DC.get (DBlk.c (blockOf 1 [kv .u8 ((byteAt s (Int.toNat (i : Int))))])) (0 + j) f)) i_1 0)) 0) > 0) then bif decide (nk ≤ DC.n (.tab nk (rowI IntKind.u8 wk)))
  then bif decide ((nk + 1) * 1 ≤ 140737488355328) then K .normal 96 [sv s, .os 2 0 no, .os 6 0 (nk + 1), iv (IntKind.wrap .i64 ((i : Int) + 1))] [.os 2 0 no, .os 6 0 (nk + 1)] [none, none, some ⟨1, .tab no fun a a_1 => kv .i32 ((wo a))⟩, none, some ⟨1, .lst [[kv .u8 ((byteAt s (Int.toNat (i : Int))))]]⟩, some ⟨1, .lst [[kv .u8 ((byteAt s (Int.toNat (i : Int))))]]⟩, some ⟨1, .app (.pre (.tab nk fun a a_1 => kv .u8 ((wk a))) nk) (.lst [[kv .u8 ((byteAt s (Int.toNat (i : Int))))]])⟩]
  else none else none else bif decide (no ≤ DC.n (.tab no (rowI IntKind.i32 wo))) then bif decide ((no + 1) * 4 ≤ 140737488355328) then K .normal 96 [sv s, .os 6 0 (no + 1), .os 3 0 nk, iv (IntKind.wrap .i64 ((i : Int) + 1))] [.os 6 0 (no + 1), .os 3 0 nk] [none, none, none, some ⟨1, .tab nk fun a a_1 => kv .u8 ((wk a))⟩, some ⟨1, .lst [[kv .u8 ((byteAt s (Int.toNat (i : Int))))]]⟩, some ⟨1, .lst [[kv .i32 65533]]⟩, some ⟨1, .app (.pre (.tab no fun a a_1 => kv .i32 ((wo a))) no) (.lst [[kv .i32 65533]])⟩]
  else none else none else none else bif decide (0 + nk ≤ DC.n (.tab nk (rowI IntKind.u8 wk))) then bif holds (∀ (i : Nat), i < nk → kv .u8 ((wk (0 + i))) = kv .u8 ((numD (kv .u8 ((wk (0 + i))))))) then
  bif decide (0 < nk) then bif decide (byteAt s (Int.toNat (i : Int)) < loF ((fun i => numD (kv .u8 ((wk (0 + i))))) 0) nk) then bif decide (no ≤ DC.n (.tab no (rowI IntKind.i32 wo))) then bif decide ((no + 1) * 4 ≤ 140737488355328)
  then K .normal 96 [sv s, .os 5 0 (no + 1), .os 6 0 0, iv (i : Int)] [.os 5 0 (no + 1), .os 6 0 0] [none, none, none, some ⟨1, .tab nk fun a a_1 => kv .u8 ((wk a))⟩, some ⟨1, .lst [[kv .i32 65533]]⟩, some ⟨1, .app (.pre (.tab no fun a a_1 => kv .i32 ((wo a))) no) (.lst [[kv .i32 65533]])⟩, some ⟨1, .lst []⟩]
  else none else none else bif decide (byteAt s (Int.toNat (i : Int)) > hiF ((fun i => numD (kv .u8 ((wk (0 + i))))) 0) nk) then bif decide (no ≤ DC.n (.tab no (rowI IntKind.i32 wo))) then bif decide ((no + 1) * 4 ≤ 140737488355328)
  then K .normal 96 [sv s, .os 5 0 (no + 1), .os 6 0 0, iv (i : Int)] [.os 5 0 (no + 1), .os 6 0 0] [none, none, none, some ⟨1, .tab nk fun a a_1 => kv .u8 ((wk a))⟩, some ⟨1, .lst [[kv .i32 65533]]⟩, some ⟨1, .app (.pre (.tab no fun a a_1 => kv .i32 ((wo a))) no) (.lst [[kv .i32 65533]])⟩, some ⟨1, .lst []⟩]
  else none else none else bif decide (nk ≤ DC.n (.tab nk (rowI IntKind.u8 wk))) then bif decide ((nk + 1) * 1 ≤ 140737488355328) then bif (↑(nk + 1) : Int) == szF ((fun i => numD (kv .u8 ((wk (0 + i))))) 0)
  then bif decide (0 + (nk + 1) ≤ DC.n (appC (.tab nk (rowI IntKind.u8 wk)) nk (subC (DBlk.c (blockOf 1 [kv .u8 ((byteAt s (Int.toNat (i : Int))))])) 0 1))) then bif holds (∀ (i_1 : Nat), i_1 < nk + 1 → (fun j f => lend1 (DC.get (appC (.tab nk (rowI IntKind.u8 wk)) nk (subC (DBlk.c (blockOf 1 [kv .u8 ((byteAt s (Int.toNat (i : Int))))])) 0 1)) (0 + j) f)) i_1 0 = kv .u8 ((numD ((fun j f => lend1 (DC.get (appC (.tab nk (rowI IntKind.u8 wk)) nk (subC (DBlk.c (blockOf 1 [kv .u8 ((byteAt s (Int.toNat (i : Int))))])) 0 1)) (0 + j) f)) i_1 0))))
  then bif decide (nk + 1 ≤ 9000000) then bif decide (no ≤ DC.n (.tab no (rowI IntKind.i32 wo))) then bif decide ((no + 1) * 4 ≤ 140737488355328) then K .normal 96 [sv s, .os 7 0 (no + 1), .os 8 0 0, iv (IntKind.wrap .i64 ((i : Int) + 1))] [.os 7 0 (no + 1), .os 8 0 0] [none, none, none, none, some ⟨1, .lst [[kv .u8 ((byteAt s (Int.toNat (i : Int))))]]⟩, some ⟨1, .app (.pre (.tab nk fun a a_1 => kv .u8 ((wk a))) nk) (.lst [[kv .u8 ((byteAt s (Int.toNat (i : Int))))]])⟩, some ⟨1, .lst [[kv .i32 ((valF (fun i_1 => numD ((fun j f => lend1 (DC.get (appC (.tab nk (rowI IntKind.u8 wk)) nk (subC (DBlk.c (blockOf 1 [kv .u8 ((byteAt s (Int.toNat (i : Int))))])) 0 1)) (0 + j) f)) i_1 0)) (nk + 1)))]]⟩, some ⟨1, .app (.pre (.tab no fun a a_1 => kv .i32 ((wo a))) no) (.lst [[kv .i32 ((valF (fun i_1 => numD ((fun j f => lend1 (DC.get (appC (.tab nk (rowI IntKind.u8 wk)) nk (subC (DBlk.c (blockOf 1 [kv .u8 ((byteAt s (Int.toNat (i : Int))))])) 0 1)) (0 + j) f)) i_1 0)) (nk + 1)))]])⟩, some ⟨1, .lst []⟩]
  else none else none else none else none else none else K .normal 96 [sv s, .os 2 0 no, .os 5 0 (nk + 1), iv (IntKind.wrap .i64 ((i : Int) + 1))] [.os 2 0 no, .os 5 0 (nk + 1)] [none, none, some ⟨1, .tab no fun a a_1 => kv .i32 ((wo a))⟩, none, some ⟨1, .lst [[kv .u8 ((byteAt s (Int.toNat (i : Int))))]]⟩, some ⟨1, .app (.pre (.tab nk fun a a_1 => kv .u8 ((wk a))) nk) (.lst [[kv .u8 ((byteAt s (Int.toNat (i : Int))))]])⟩]
  else none else none else none else none else none else none else K (.exit 0) 96 [sv s, .os 2 0 no, .os 3 0 nk, iv (i : Int)] [.os 2 0 no, .os 3 0 nk] [none, none, some ⟨1, .tab no fun a a_1 => kv .i32 ((wo a))⟩, some ⟨1, .tab nk fun a a_1 => kv .u8 ((wk a))⟩] := by
 kernel_rfl
theorem valR_ext {z w : Nat → Int} : ∀ (m i : Nat) (a : Int), (∀ j, i ≤ j → j < i + m → z j = w j) → valR z m i a = valR w m i a
 | 0, _, _, _ => rfl
 | m + 1, i, a, h => by
  rw [valR, valR, h i (Nat.le_refl _) (by omega), valR_ext m (i + 1) _ fun j h1 h2 => h j (by omega) (by omega)]
theorem valF_ext {z w : Nat → Int} {n : Nat} (h0 : 0 < n) (h : ∀ j, j < n → z j = w j) : valF z n = valF w n := by
 unfold valF valA
 rw [h 0 h0, valR_ext (w := w) (n - 1) 1 _ fun j h1 h2 => h j (by omega)]
theorem one_get (v : Int) : lend1 ((blockOf 1 [DV.v (Value.int IntKind.u8 v)]).c.get 0 0) = kv .u8 v := by kernel_rfl
theorem sub_get (v : Int) : (subC (blockOf 1 [DV.v (Value.int IntKind.u8 v)]).c 0 1).get 0 0 = kv .u8 v := by kernel_rfl
theorem sub_n (v : Int) : (subC (blockOf 1 [DV.v (Value.int IntKind.u8 v)]).c 0 1).n = 1 := by kernel_rfl
theorem app_n (k : List Int) (v : Int) : (appC (DC.tab k.length (rowI IntKind.u8 (lw k))) k.length (subC (blockOf 1 [DV.v (Value.int IntKind.u8 v)]).c 0 1)).n = k.length + 1 := by
 have h : k.length ≤ (DC.tab k.length (rowI IntKind.u8 (lw k))).n := Nat.le_refl _
 rw [appC_n h, sub_n]
theorem app_at (k : List Int) (v : Int) {j : Nat} (hj : j < k.length + 1) : lend1 ((appC (DC.tab k.length (rowI IntKind.u8 (lw k))) k.length (subC (blockOf 1 [DV.v (Value.int IntKind.u8 v)]).c 0 1)).get j 0) = kv .u8 (lw (k ++ [v]) j) := by
 have h0 : k.length ≤ (DC.tab k.length (rowI IntKind.u8 (lw k))).n := Nat.le_refl _
 rw [appC_get h0]
 by_cases h : j < k.length
 ·rw [if_pos h]
  show kv .u8 (lw k j) = _
  simp [lw, List.getElem?_append_left h]
 ·rw [if_neg h]
  obtain rfl : j = k.length := by omega
  rw [Nat.sub_self, sub_get]
  show kv .u8 v = _
  simp [lw]
theorem dcd_ls {st : AE.Stat} (h98 : ∀ a σ, st.ext 103 a σ = none) (h99 : ∀ a σ, st.ext 104 a σ = none) : LoopS Tryz.prog st gl0 (.loop (loopAt Tryz.f82 250)) dcI.g := by
 refine dcI.ok (E := env dcL noLp 0) (p := 500) (tblD_env (l := dcL) (fun x hx => ?_)) (glOk st).1 (fun _ _ _ h => nomatch h) (fun x k h => h) fun x hx => ?_
 ·simp only [dcL, List.mem_cons, List.not_mem_nil, or_false] at hx
  rcases hx with rfl | rfl
  ·exact limC_ok h98
  ·exact valC_ok h99
 obtain ⟨s, i, o, k⟩ := x
 obtain ⟨h1, h2, h3, h4⟩ : i ≤ s.size ∧ s.size ≤ 9000000 ∧ o.length + min 1 k.length ≤ i ∧ k.length ≤ i := hx
 refine (dcd_loop s o.length k.length i (lw o) (lw k) _).trans ?_
 simp only [Int.toNat_natCast, Nat.zero_add]
 refine dS (fun hlt => ?_) fun hge => ?_
 ·have hlt : i < s.size := by omega
  have hW : IntKind.i64.wrap ((i : Int) + 1) = ((i + 1 : Nat) : Int) := by rw [W_in (by omega) (by omega)]; omega
  rw [hW]
  have hn : o.length ≤ DC.n (DC.tab o.length (rowI IntKind.i32 (lw o))) := Nat.le_refl _
  have hn8 : k.length ≤ DC.n (DC.tab k.length (rowI IntKind.u8 (lw k))) := Nat.le_refl _
  refine dT (by omega) (cS (fun hk => ?_) fun hk => ?_)
  ·obtain rfl : k = [] := List.length_eq_zero_iff.1 (by have := beq_iff_eq.1 hk; omega)
   refine hT (fun j hj => by obtain rfl : j = 0 := (by omega); rw [one_get]; rfl) (dS (fun hb => ?_) fun hb => dS (fun hz => ?_) fun hz => ?_)
   ·have hst : dstep s i o [] = (i + 1, o ++ [IntKind.i32.wrap (byteAt s i)], []) := by unfold dstep; rw [if_pos rfl, if_pos hb]
    obtain ⟨q1, q2⟩ := DX.step hlt hst
    refine dT hn (dT (by omega) (LInv.ask_of ⟨rfl, ⟨s, i + 1, o ++ [IntKind.i32.wrap (byteAt s i)], []⟩, ⟨rfl, by simp only [dcI, q1], by simp only [dcI, q1], ?_⟩, q2, [6, 3], ?_⟩))
    ·refine ⟨hlt, h2, ?_, Nat.zero_le _⟩
     simp at h3 ⊢; omega
    ·show WkP 2 [6, 3] _ _ [sv s, .os 2 0 (o ++ [IntKind.i32.wrap (byteAt s i)]).length, .os 3 0 0, iv ((i + 1 : Nat) : Int)] [none, none, some (lstB .i32 (o ++ [IntKind.i32.wrap (byteAt s i)])), some (lstB .u8 [])]
     rw [show (o ++ [IntKind.i32.wrap (byteAt s i)]).length = o.length + 1 by simp]
     exact .of (im := [some 6, some 3]) (.cons (.v _) (.cons (.os rfl) (.cons (.os rfl) (.cons (.v _) .nil)))) rfl ⟨⟨6, _, rfl, rfl, (HasL.app rfl .tab (.one rfl)).sub⟩, ⟨3, _, rfl, rfl, HasL.tab.sub⟩, trivial⟩ rfl (by decide)
   ·have hz : szF (byteAt s i) > 0 := by rw [one_get] at hz; exact hz
    have hst : dstep s i o [] = (i + 1, o, [byteAt s i]) := by unfold dstep; rw [if_pos rfl, if_neg hb, if_pos hz]
    obtain ⟨q1, q2⟩ := DX.step hlt hst
    refine dT hn8 (dT (by simp) (LInv.ask_of ⟨rfl, ⟨s, i + 1, o, [byteAt s i]⟩, ⟨rfl, by simp only [dcI, q1], by simp only [dcI, q1], ?_⟩, q2, [2, 6], ?_⟩))
    ·refine ⟨hlt, h2, ?_, ?_⟩
     ·simp at h3 ⊢; omega
     ·simp
    ·show WkP 2 [2, 6] _ _ [sv s, .os 2 0 o.length, .os 3 0 1, iv ((i + 1 : Nat) : Int)] [none, none, some (lstB .i32 o), some (lstB .u8 [byteAt s i])]
     exact .of (im := [some 2, some 6]) (.cons (.v _) (.cons (.os rfl) (.cons (.os rfl) (.cons (.v _) .nil)))) rfl ⟨⟨2, _, rfl, rfl, HasL.tab.sub⟩, ⟨6, _, rfl, rfl, (HasL.app (L := []) rfl .tab (.one rfl)).sub⟩, trivial⟩ rfl (by decide)
   ·have hz : ¬ szF (byteAt s i) > 0 := by rw [one_get] at hz; exact hz
    have hst : dstep s i o [] = (i + 1, o ++ [65533], []) := by unfold dstep; rw [if_pos rfl, if_neg hb, if_neg hz]
    obtain ⟨q1, q2⟩ := DX.step hlt hst
    refine dT hn (dT (by omega) (LInv.ask_of ⟨rfl, ⟨s, i + 1, o ++ [65533], []⟩, ⟨rfl, by simp only [dcI, q1], by simp only [dcI, q1], ?_⟩, q2, [6, 3], ?_⟩))
    ·refine ⟨hlt, h2, ?_, Nat.zero_le _⟩
     simp at h3 ⊢; omega
    ·show WkP 2 [6, 3] _ _ [sv s, .os 2 0 (o ++ [65533]).length, .os 3 0 0, iv ((i + 1 : Nat) : Int)] [none, none, some (lstB .i32 (o ++ [65533])), some (lstB .u8 [])]
     rw [show (o ++ [(65533 : Int)]).length = o.length + 1 by simp]
     exact .of (im := [some 6, some 3]) (.cons (.v _) (.cons (.os rfl) (.cons (.os rfl) (.cons (.v _) .nil)))) rfl ⟨⟨6, _, rfl, rfl, (HasL.app rfl .tab (.one rfl)).sub⟩, ⟨3, _, rfl, rfl, HasL.tab.sub⟩, trivial⟩ rfl (by decide)
  ·have hk : k ≠ [] := fun e => by rw [e] at hk; exact absurd hk (by decide)
   have hk0 : 0 < k.length := List.length_pos_iff.2 hk
   have h3 : o.length + 1 ≤ i := by omega
   have fail : ∀ hst : dstep s i o k = (i, o ++ [65533], []), dcI.ask ⟨s, i, o, k⟩ .normal 96 [sv s, .os 5 0 (o.length + 1), .os 6 0 0, iv (i : Int)] [.os 5 0 (o.length + 1), .os 6 0 0]
     [none, none, none, some ⟨1, .tab k.length fun a _ => .v (.int .u8 (lw k a))⟩, some ⟨1, .lst [[.v (.int .i32 65533)]]⟩, some ⟨1, .app (.pre (.tab o.length fun a _ => .v (.int .i32 (lw o a))) o.length) (.lst [[.v (.int .i32 65533)]])⟩, some ⟨1, .lst []⟩] = some () := fun hst => by
    obtain ⟨q1, q2⟩ := DX.step hlt hst
    refine LInv.ask_of ⟨rfl, ⟨s, i, o ++ [65533], []⟩, ⟨rfl, by simp only [dcI, q1], by simp only [dcI, q1], ?_⟩, q2, [5, 6], ?_⟩
    ·refine ⟨h1, h2, ?_, Nat.zero_le _⟩
     simp; omega
    ·show WkP 2 [5, 6] _ _ [sv s, .os 2 0 (o ++ [65533]).length, .os 3 0 0, iv (i : Int)] [none, none, some (lstB .i32 (o ++ [65533])), some (lstB .u8 [])]
     rw [show (o ++ [(65533 : Int)]).length = o.length + 1 by simp]
     exact .of (im := [some 5, some 6]) (.cons (.v _) (.cons (.os rfl) (.cons (.os rfl) (.cons (.v _) .nil)))) rfl ⟨⟨5, _, rfl, rfl, (HasL.app rfl .tab (.one rfl)).sub⟩, ⟨6, _, rfl, rfl, (HasL.nil (c := .lst []) trivial).sub⟩, trivial⟩ rfl (by decide)
   refine dT hn8 (hT (fun j hj => rfl) (dT hk0 (dS (fun hlo => ?_) fun hlo => dS (fun hhi => ?_) fun hhi => ?_)))
   ·have hlo : byteAt s i < loF (lw k 0) k.length := hlo
    refine dT hn (dT (by omega) (fail ?_))
    unfold dstep
    rw [if_neg hk, if_pos hlo]
   ·have hlo : ¬ byteAt s i < loF (lw k 0) k.length := hlo
    have hhi : byteAt s i > hiF (lw k 0) k.length := hhi
    refine dT hn (dT (by omega) (fail ?_))
    unfold dstep
    rw [if_neg hk, if_neg hlo, if_pos hhi]
   ·have hlo : ¬ byteAt s i < loF (lw k 0) k.length := hlo
    have hhi : ¬ byteAt s i > hiF (lw k 0) k.length := hhi
    refine dT hn8 (dT (by omega) (cS (fun hsz => ?_) fun hsz => ?_))
    ·have hsz : ((k.length + 1 : Nat) : Int) = szF (lw k 0) := beq_iff_eq.1 hsz
     have hvf := valF_ext (z := fun i_1 => numD (lend1 ((appC (DC.tab k.length (rowI IntKind.u8 (lw k))) k.length (subC (blockOf 1 [DV.v (Value.int IntKind.u8 (byteAt s i))]).c 0 1)).get i_1 0))) (w := lw (k ++ [byteAt s i])) (n := k.length + 1) (Nat.succ_pos k.length) fun j hj => by
      show numD (lend1 _) = _
      rw [app_at k _ hj]
      rfl
     have hst : dstep s i o k = (i + 1, o ++ [valF (lw (k ++ [byteAt s i])) (k.length + 1)], []) := by unfold dstep; rw [if_neg hk, if_neg hlo, if_neg hhi, if_pos hsz]
     rw [← hvf] at hst
     obtain ⟨q1, q2⟩ := DX.step hlt hst
     rw [app_n]
     refine dT (Nat.le_refl _) (hT (fun j hj => by rw [app_at k _ hj]; rfl) (dT (by omega) (dT hn (dT (by omega) ?_))))
     clear hst hvf
     generalize valF (fun i_1 => numD (lend1 ((appC (DC.tab k.length (rowI IntKind.u8 (lw k))) k.length (subC (blockOf 1 [DV.v (Value.int IntKind.u8 (byteAt s i))]).c 0 1)).get i_1 0))) (k.length + 1) = u at q1 ⊢
     refine LInv.ask_of ⟨rfl, ⟨s, i + 1, o ++ [u], []⟩, ⟨rfl, by simp only [dcI, q1], by simp only [dcI, q1], ?_⟩, q2, [7, 8], ?_⟩
     ·refine ⟨hlt, h2, ?_, Nat.zero_le _⟩
      simp; omega
     ·show WkP 2 [7, 8] _ _ [sv s, .os 2 0 (o ++ [u]).length, .os 3 0 0, iv ((i + 1 : Nat) : Int)] [none, none, some (lstB .i32 (o ++ [u])), some (lstB .u8 [])]
      rw [show (o ++ [u]).length = o.length + 1 by simp]
      exact .of (im := [some 7, some 8]) (.cons (.v _) (.cons (.os rfl) (.cons (.os rfl) (.cons (.v _) .nil)))) rfl ⟨⟨7, _, rfl, rfl, (HasL.app rfl .tab (.one rfl)).sub⟩, ⟨8, _, rfl, rfl, (HasL.nil (c := .lst []) trivial).sub⟩, trivial⟩ rfl (by decide)
    ·have hsz : ¬ ((k.length + 1 : Nat) : Int) = szF (lw k 0) := beq_eq_false_iff_ne.1 hsz
     have hst : dstep s i o k = (i + 1, o, k ++ [byteAt s i]) := by unfold dstep; rw [if_neg hk, if_neg hlo, if_neg hhi, if_neg hsz]
     obtain ⟨q1, q2⟩ := DX.step hlt hst
     refine LInv.ask_of ⟨rfl, ⟨s, i + 1, o, k ++ [byteAt s i]⟩, ⟨rfl, by simp only [dcI, q1], by simp only [dcI, q1], ?_⟩, q2, [2, 5], ?_⟩
     ·refine ⟨hlt, h2, ?_, ?_⟩
      ·simp; omega
      ·simp; omega
     ·show WkP 2 [2, 5] _ _ [sv s, .os 2 0 o.length, .os 3 0 (k ++ [byteAt s i]).length, iv ((i + 1 : Nat) : Int)] [none, none, some (lstB .i32 o), some (lstB .u8 (k ++ [byteAt s i]))]
      rw [show (k ++ [byteAt s i]).length = k.length + 1 by simp]
      exact .of (im := [some 2, some 5]) (.cons (.v _) (.cons (.os rfl) (.cons (.os rfl) (.cons (.v _) .nil)))) rfl ⟨⟨2, _, rfl, rfl, HasL.tab.sub⟩, ⟨5, _, rfl, rfl, (HasL.app rfl .tab (.one rfl)).sub⟩, trivial⟩ rfl (by decide)
 ·have hge : i = s.size := by omega
  subst hge
  have hr : DX.r ⟨s, s.size, o, k⟩ = (o, k) := by
   simp only [DX.r]
   generalize dmeas s s.size k = m
   cases m with
   | zero => rfl
   | succ m => rw [decR, if_neg (by omega)]
  refine LInv.ask_of ⟨rfl, rfl, [2, 3], ?_⟩
  simp only [dcI, hr]
  exact .of (im := [some 2, some 3]) (.cons (.os rfl) (.cons (.os rfl) .nil)) rfl ⟨⟨2, _, rfl, rfl, HasL.tab.sub⟩, ⟨3, _, rfl, rfl, HasL.tab.sub⟩, trivial⟩ rfl (by decide)
end Go.Proofs.YtfdldnomelnbgaaGreatDoor

namespace Go.Proofs.YtfdldnomelnbgaaGreatDoor
open Go Go.AE Go.DE Go.RowKit

theorem dec_tree (a s : ByteArray) (K : DV → DHeap → Option Unit) : bodyD Tryz.prog (env dcL (lpOf [(250, dcI.g)]) 0) Tryz.f82 [sv a, sv s] [] (fun d σ => K d σ) =
  bif decide (ByteArray.size a + ByteArray.size s ≤ 9223372036854775807) then bif holds ((Nat.le 0 (ByteArray.size (a ++ s)) ∧ Nat.le (ByteArray.size (a ++ s)) 9000000 ∧ Nat.le 0 0 ∧ Nat.le 0 0) ∧ ∃ ids, WkP 2 ids [sv (a ++ s), .os 0 0 0, .os 1 0 0, iv 0] [some ⟨1, .lst []⟩, some ⟨1, .lst []⟩] [sv (a ++ s), .os 2 0 0, .os 3 0 0, iv 0] [none, none, some ⟨1, .tab 0 fun a a_1 => kv .i32 ((lw [] a))⟩, some ⟨1, .tab 0 fun a a_1 => kv .u8 ((lw [] a))⟩])
  then bif decide (0 + List.length (Prod.snd (DX.r { s := a ++ s, i := 0, o := [], k := [] })) ≤ DC.n (DBlk.c (lstB IntKind.u8 (Prod.snd (DX.r { s := a ++ s, i := 0, o := [], k := [] }))))) then bif intsD IntKind.u8 (List.length (Prod.snd (DX.r { s := a ++ s, i := 0, o := [], k := [] }))) (subC (DBlk.c (lstB IntKind.u8 (Prod.snd (DX.r { s := a ++ s, i := 0, o := [], k := [] })))) 0 (List.length (Prod.snd (DX.r { s := a ++ s, i := 0, o := [], k := [] }))))
  then K (.tup [.os 2 0 (List.length (Prod.fst (DX.r { s := a ++ s, i := 0, o := [], k := [] }))), sv (bytesS (List.length (Prod.snd (DX.r { s := a ++ s, i := 0, o := [], k := [] }))) fun j => numD (kv .u8 ((lw (Prod.snd (DX.r { s := a ++ s, i := 0, o := [], k := [] })) (0 + j)))))]) [none, none, some ⟨1, .tab (List.length (Prod.fst (DX.r { s := a ++ s, i := 0, o := [], k := [] }))) fun a_1 a_2 => kv .i32 ((lw (Prod.fst (DX.r { s := a ++ s, i := 0, o := [], k := [] })) a_1))⟩, some ⟨1, .tab (List.length (Prod.snd (DX.r { s := a ++ s, i := 0, o := [], k := [] }))) fun a_1 a_2 => kv .u8 ((lw (Prod.snd (DX.r { s := a ++ s, i := 0, o := [], k := [] })) a_1))⟩]
  else none else none else none else none := by
 kernel_rfl
/-- What Decode answers: characters, and bytes that are left over. -/
def decF (s : ByteArray) : List Int × ByteArray := ((DX.r ⟨s, 0, [], []⟩).1, bytesS (DX.r ⟨s, 0, [], []⟩).2.length (lw (DX.r ⟨s, 0, [], []⟩).2))
noncomputable def decC : ConF := fun args k => match args with
 | [.v (.string a), .v (.string s)] => bif decide (a.size + s.size ≤ 9000000) then k (fun b => (.tup [.os b 0 (decF (a ++ s)).1.length, sv (decF (a ++ s)).2], [some (lstB .i32 (decF (a ++ s)).1)])) else none
 | _ => none
theorem dcL_ok {st : AE.Stat} (hx : ∀ f, exA f = false → ∀ a σ, st.ext f a σ = none) : ∀ x ∈ dcL, ConOk Tryz.prog st x.1 x.2 := fun x h => by
 simp only [dcL, List.mem_cons, List.not_mem_nil, or_false] at h
 rcases h with rfl | rfl
 ·exact limC_ok (hx 103 rfl)
 ·exact valC_ok (hx 104 rfl)
theorem decC_ok {st : AE.Stat} (hx : ∀ f, exA f = false → ∀ a σ, st.ext f a σ = none) : ConOk Tryz.prog st 82 decC := by
 refine con_of (mg := []) (l := dcL) (lp := lpOf [(250, dcI.g)]) (n := 0) (glOk st) (dcL_ok hx) Tryz.func82 (by kernel_rfl) (by kernel_rfl) (hx 82 rfl) (lp_one (by kernel_rfl) (dcd_ls (hx 103 rfl) (hx 104 rfl))) fun args k hk => ?_
 unfold decC at hk
 split at hk <;> first | (cases hk; done) | skip
 rename_i a s
 obtain ⟨hn, hk⟩ := dec_none hk
 refine ⟨[sv a, sv s], _, .self (.self .nil), hk, fun b => ⟨lowR_lst (.tup fun d hd => ?_), ?_⟩⟩
 ·simp only [List.mem_cons, List.not_mem_nil, or_false] at hd
  rcases hd with rfl | rfl
  ·exact .os _ _ _
  ·exact .v _
 ·have hsz : (a ++ s).size = a.size + s.size := ByteArray.size_append
  refine (dec_tree a s _).trans (dT (by omega) (hT ⟨⟨Nat.zero_le _, by show (a ++ s).size ≤ 9000000; omega, Nat.le_refl _, Nat.le_refl _⟩, [0, 1], ?_⟩ (dT ?_ (cT ?_ (fin_of ?_)))))
  ·exact .of (im := [some 0, some 1]) (.cons (.v _) (.cons (.os rfl) (.cons (.os rfl) (.cons (.v _) .nil)))) rfl ⟨⟨0, _, rfl, rfl, (HasL.nil (q := .i32) (c := .lst []) trivial).sub⟩, ⟨1, _, rfl, rfl, (HasL.nil (q := .u8) (c := .lst []) trivial).sub⟩, trivial⟩ rfl (by decide)
  ·rw [Nat.zero_add]
   exact Nat.le_refl _
  ·refine intsD_iff.2 fun j hj => ?_
   rw [subC_get hj, Nat.zero_add]
   rfl
  ·refine finQ_tup (id := 2) (blk := lstB .i32 (decF (a ++ s)).1) ?_ (fun d hd => ?_) rfl rfl (Nat.le_refl _) trivial fun i f hi hf => ⟨.v _, rfl⟩
   ·simp only [Nat.zero_add]
    rfl
   ·obtain rfl : d = _ := by simpa using hd
    exact .v _
end Go.Proofs.YtfdldnomelnbgaaGreatDoor
