/-
  The contract of Encode for ticks.
  Condition: the library's functions do what the table tells (stJ).

  Plain facts on a tick's line: its two words, the number that the first one spells.
  Conditions: none; lemmas on bytes.
-/
import Derived.Test.YtiphckeipbfbmaaGreatDoorJHides
import Derived.Lib.SplitLaws
import Derived.Lib.CountLaws
import Derived.Lib.Atoi
import Derived.Lib.IndexBytes
namespace Go.Proofs.YtiphckeipbfbmaaGreatDoor
open Go Go.AE Go.DE Go.RowKit

def TICK : ByteArray := ⟨#[116, 105, 99, 107]⟩
def tickS (t : Int) : ByteArray := joinS [itB t, TICK] SP
abbrev tickD (t : Int) : DV := .agg [iv 2, iv t, .v (.slice none 0 0), sv ⟨#[]⟩, iv 0, bv false, bv false, iv 0, bv false, iv 0]
theorem tick_tree (t : Int) (k : DV → Option Unit) : bodyD Tryz.prog (env encL noLp 0) Tryz.f12 [tickD t] [] (fun d _ => k d) =
    bif decide (t < (0 : Int)) then k (DV.tup [DV.v (Value.string { data := #[] }), DV.v (Value.int IntKind.i64 (2 : Int))])
    else
      bif decide (t > (1099511627776 : Int)) then
        k (DV.tup [DV.v (Value.string { data := #[] }), DV.v (Value.int IntKind.i64 (2 : Int))])
      else
        bif holds ((-9223372036854775808 : Int) ≤ t ∧ t ≤ (9223372036854775807 : Int)) then
          bif
              holds
                (strsOk
                    (fun j f =>
                      lend1
                        (DC.get
                          (appC (DBlk.c (blockOf (1 : Nat) [DV.v (Value.string { data := List.toArray (Lib.itoa t) })]))
                            (1 : Nat)
                            (subC
                              (DBlk.c
                                (blockOf (1 : Nat)
                                  [DV.v
                                      (Value.string
                                        { data := #[(116 : UInt8), (105 : UInt8), (99 : UInt8), (107 : UInt8)] })]))
                              (0 : Nat) (1 : Nat)))
                          ((0 : Nat) + j) f))
                    (2 : Nat) ∧
                  List.length
                        (AE.joinL
                          (strs
                            (fun j f =>
                              lend1
                                (DC.get
                                  (appC
                                    (DBlk.c (blockOf (1 : Nat) [DV.v (Value.string { data := List.toArray (Lib.itoa t) })]))
                                    (1 : Nat)
                                    (subC
                                      (DBlk.c
                                        (blockOf (1 : Nat)
                                          [DV.v
                                              (Value.string
                                                { data := #[(116 : UInt8), (105 : UInt8), (99 : UInt8), (107 : UInt8)] })]))
                                      (0 : Nat) (1 : Nat)))
                                  ((0 : Nat) + j) f))
                            (2 : Nat))
                          { data := #[(32 : UInt8)] }) ≤
                      (140737488355328 : Nat) ∧
                    (2 : Nat) ≤ (140737488355328 : Nat)) then
            k
              (DV.tup
                [DV.v
                    (Value.string
                      (joinS
                        (strs
                          (fun j f =>
                            lend1
                              (DC.get
                                (appC
                                  (DBlk.c (blockOf (1 : Nat) [DV.v (Value.string { data := List.toArray (Lib.itoa t) })]))
                                  (1 : Nat)
                                  (subC
                                    (DBlk.c
                                      (blockOf (1 : Nat)
                                        [DV.v
                                            (Value.string
                                              { data := #[(116 : UInt8), (105 : UInt8), (99 : UInt8), (107 : UInt8)] })]))
                                    (0 : Nat) (1 : Nat)))
                                ((0 : Nat) + j) f))
                          (2 : Nat))
                        { data := #[(32 : UInt8)] })),
                  DV.v (Value.int IntKind.i64 (0 : Int))])
          else none
        else none := by
  kernel_rfl
theorem tick_list (t : Int) : (tickS t).data.toList = Lib.itoa t ++ 32 :: TICK.data.toList := by
  show Lib.join [Lib.itoa t, TICK.data.toList] [32] = _
  simp [Lib.join_cons, Lib.joinTail, TICK]
def inT (t : Int) : Bool := decide (0 ≤ t) && decide (t ≤ 1099511627776)
theorem inT_iff {t : Int} : inT t = true ↔ 0 ≤ t ∧ t ≤ 1099511627776 := by simp [inT]
/-- What Encode answers for a tick. -/
def encT (t : Int) : DV := if inT t then .tup [sv (tickS t), iv 0] else .tup [sv ⟨#[]⟩, iv 2]
theorem encT_true (t : Int) : bodyD Tryz.prog (env encL noLp 0) Tryz.f12 [tickD t] [] (fun d _ => isD (encT t) d) = some () := by
  by_cases a1 : t < 0
  · exact (tick_tree t _).trans (dT a1 (isD_of (by rw [encT, if_neg (by rw [inT_iff]; omega)])))
  by_cases a2 : t > 1099511627776
  · exact (tick_tree t _).trans (dF a1 (dT a2 (isD_of (by rw [encT, if_neg (by rw [inT_iff]; omega)]))))
  have hlen := itoa_len (t := t) (by omega) (by omega)
  refine (tick_tree t _).trans (dF a1 (dF a2 (hT (by omega) (hT ⟨?_, ?_, by decide⟩ (isD_of (by rw [encT, if_pos (inT_iff.2 (by omega))]; kernel_rfl))))))
  · intro i hi
    have : i = 0 ∨ i = 1 := by omega
    rcases this with rfl | rfl <;> (show _ = _; kernel_rfl)
  · refine Nat.le_trans (Nat.le_of_eq (show _ = (Lib.join [Lib.itoa t, TICK.data.toList] SP.data.toList).length by kernel_rfl)) ?_
    rw [Lib.join_length]
    simp [Lib.lens, TICK, SP]
    omega
noncomputable def tickC : ConF := fun args k => match args with
  | [.agg [.v (.int .i64 q), .v (.int .i64 t), .v c, .v (.string s), .v (.int .i64 a1), .v (.bool a2), .v (.bool a3), .v (.int .i64 a4), .v (.bool a5), .v (.int .i64 a6)]] =>
    bif holds (q = 2 ∧ c = .slice none 0 0 ∧ s = ⟨#[]⟩ ∧ a1 = 0 ∧ a2 = false ∧ a3 = false ∧ a4 = 0 ∧ a5 = false ∧ a6 = 0) then (bif inT t then k (fun _ => (.tup [sv (tickS t), iv 0], [])) else k (fun _ => (.tup [sv ⟨#[]⟩, iv 2], []))) else none
  | _ => none
theorem tickC_ok : ConOk Tryz.prog stJ 12 tickC := by
  refine con_flat (mg := []) (l := encL) (lp := noLp) (n := 0) (glOk stJ) encL_ok Tryz.func12 (by kernel_rfl) (by kernel_rfl) (ext_none fun _ _ _ => rfl) (fun _ _ _ h => nomatch h) fun args k hk => ?_
  unfold tickC at hk
  split at hk <;> first | (cases hk; done) | skip
  rename_i q t c s a1 a2 a3 a4 a5 a6
  obtain ⟨hb, hk2⟩ := bif_none hk
  clear hk
  obtain ⟨rfl, rfl, rfl, rfl, rfl, rfl, rfl, rfl, rfl⟩ := holds_eq.1 hb
  have he := encT_true t
  unfold encT at he
  rcases bif_some hk2 with ⟨h, hk⟩ | ⟨h, hk⟩
  · rw [if_pos h] at he
    exact ⟨_, _, .self .nil, tup_ok (tickS t) 0, hk, he⟩
  · rw [if_neg (by rw [h]; decide)] at he
    exact ⟨_, _, .self .nil, tup_ok ⟨#[]⟩ 2, hk, he⟩
end Go.Proofs.YtiphckeipbfbmaaGreatDoor

namespace Go.Proofs.YtiphckeipbfbmaaGreatDoor
open Go Go.AE Go.DE Go.RowKit

theorem decFrom_snoc {b : UInt8} {d : Nat} (hd : Lib.digitVal b = some d) : ∀ (l : List UInt8) (acc n : Nat), Lib.decFrom acc l = some n → Lib.decFrom acc (l ++ [b]) = some (n * 10 + d)
  | [], acc, n, h => by
    obtain rfl := Option.some.inj h
    simp [Lib.decFrom, hd]
  | a :: l, acc, n, h => by
    rw [List.cons_append]
    simp only [Lib.decFrom] at h ⊢
    split at h
    · rename_i e he
      exact decFrom_snoc hd l _ _ h
    · cases h
theorem digit_val : ∀ k, k < 10 → Lib.digitVal (UInt8.ofNat (48 + k)) = some k := by decide
theorem decFrom_dec (u : Nat) : Lib.decFrom 0 (Lib.decDigits u) = some u := by
  induction u using Nat.strongRecOn with
  | _ u ih =>
    rw [Lib.decDigits]
    split
    · rename_i h
      simp only [Lib.decFrom, digit_val u h]
      exact congrArg some (by omega)
    · rename_i h
      rw [decFrom_snoc (digit_val _ (Nat.mod_lt _ (by decide))) _ _ _ (ih (u / 10) (by omega))]
      exact congrArg some (by omega)
theorem dec_ne (u : Nat) : Lib.decDigits u ≠ [] := by
  rw [Lib.decDigits]
  split <;> simp
theorem atoi_itoa {t : Int} (h : 0 ≤ t) : Lib.atoi (Lib.itoa t) = some t := by
  have hd := itoa_dig h
  have he : Lib.itoa t = Lib.decDigits t.toNat := by unfold Lib.itoa; rw [if_neg (by omega)]
  have hne := dec_ne t.toNat
  have hv := decFrom_dec t.toNat
  rw [he] at hd ⊢
  cases hl : Lib.decDigits t.toNat with
  | nil => exact (hne hl).elim
  | cons b r =>
    rw [hl] at hd hv
    have hb := hd b (List.mem_cons_self ..)
    have h1 : (b == 45) = false := beq_eq_false_iff_ne.2 fun e => by rw [e] at hb; exact absurd hb.1 (by decide)
    have h2 : (b == 43) = false := beq_eq_false_iff_ne.2 fun e => by rw [e] at hb; exact absurd hb.1 (by decide)
    simp only [Lib.atoi, h1, h2, Bool.false_eq_true, if_false, Lib.decNat, List.isEmpty_cons, hv, Option.map_some, Option.some.injEq]
    omega
theorem bytes_ext {a b : ByteArray} (h : a.data.toList = b.data.toList) : a = b := by
  obtain ⟨⟨l⟩⟩ := a
  obtain ⟨⟨m⟩⟩ := b
  exact congrArg (fun l => (⟨⟨l⟩⟩ : ByteArray)) h
theorem tick_index {t : Int} (h : 0 ≤ t) : Lib.indexB (tickS t) SP = ((Lib.itoa t).length : Int) := by
  show Lib.index (tickS t).data.toList [32] = _
  rw [Lib.index_one, tick_list]
  refine index_past _ _ _ fun b hb e => ?_
  have := itoa_dig h b hb
  rw [e] at this
  exact absurd this.1 (by decide)
theorem tick_size (t : Int) : (tickS t).size = (Lib.itoa t).length + 5 := by
  rw [size_list, tick_list, List.length_append]
  rfl
theorem tick_tail (t : Int) : (tickS t).extract ((Lib.itoa t).length + 1) (tickS t).size = TICK := by
  refine bytes_ext ?_
  rw [tick_size, Lib.extract_eq, tick_list]
  simp [List.drop_append, List.drop_eq_nil_of_le, TICK]
theorem tick_head (t : Int) : (tickS t).extract 0 (Lib.itoa t).length = itB t := by
  refine bytes_ext ?_
  rw [Lib.extract_eq, tick_list]
  simp [itB]
theorem tick_rest : Lib.indexB TICK SP = -1 := by decide +kernel
theorem tick_count {t : Int} (h : 0 ≤ t) : Lib.countB (tickS t) SP = 1 := by
  rw [Lib.countB_hit _ _ _ (by decide) (tick_index h)]
  show 1 + Lib.countB ((tickS t).extract ((Lib.itoa t).length + 1) (tickS t).size) SP = 1
  rw [tick_tail, Lib.countB_miss _ _ tick_rest]
theorem tick_split {t : Int} (h : 0 ≤ t) : Lib.splitB SP 0 1 (tickS t) = [itB t, TICK] := by
  rw [Lib.splitB_hit _ _ _ _ _ (tick_index h), Lib.splitB_zero, Nat.add_zero, tick_head]
  show [itB t, (tickS t).extract ((Lib.itoa t).length + 1) (tickS t).size] = _
  rw [tick_tail]
theorem tick_inj {t u : Int} (h : 0 ≤ t) (h' : 0 ≤ u) (e : tickS t = tickS u) : t = u := by
  have hs := tick_size t
  rw [e, tick_size] at hs
  have h1 := tick_head t
  rw [e, show (Lib.itoa t).length = (Lib.itoa u).length by omega, tick_head] at h1
  have h2 : Lib.itoa u = Lib.itoa t := by
    have := congrArg (fun b : ByteArray => b.data.toList) h1
    simpa [itB] using this
  have h3 := atoi_itoa h
  rw [← h2, atoi_itoa h'] at h3
  exact (Option.some.inj h3).symm
end Go.Proofs.YtiphckeipbfbmaaGreatDoor
