/-
  'JournalHides': what the law computes is true.
  Condition: the library's functions do what the table tells (stJ).
-/
import Derived.Test.YtiphckeipbfbmaaGreatDoorJEnc
namespace Go.Proofs.YtiphckeipbfbmaaGreatDoor
open Go Go.AE Go.DE Go.RowKit

noncomputable def cut44 : ConF := inl Tryz.prog (env [(70, indexC)] noLp 0) Tryz.f44
theorem cut44_ok : ConOk Tryz.prog stJ 44 cut44 :=
  inl_ok Tryz.func44 (by kernel_rfl) (by kernel_rfl) (ext_none fun _ _ _ => rfl) (glOk _) (tblD_env (l := [(70, indexC)]) (fun x hx => by
    obtain rfl : x = (70, indexC) := by simpa using hx
    exact indexC_ok)) (fun _ _ _ h => nomatch h)
noncomputable def cutC : ConF := inl Tryz.prog (env [(44, cut44)] noLp 0) Tryz.f16
theorem cut_ok : ConOk Tryz.prog stJ 16 cutC :=
  inl_ok Tryz.func16 (by kernel_rfl) (by kernel_rfl) (ext_none fun _ _ _ => rfl) (glOk _) (tblD_env (l := [(44, cut44)]) (fun x hx => by
    obtain rfl : x = (44, cut44) := by simpa using hx
    exact cut44_ok)) (fun _ _ _ h => nomatch h)
noncomputable abbrev hidL : List (FuncId × ConF) := [(12, encC), (16, cutC), (17, prefixC), (11, awakeC)]
theorem hidL_ok : ∀ x ∈ hidL, ConOk Tryz.prog stJ x.1 x.2 := by
  intro x hx
  simp only [hidL, List.mem_cons, List.not_mem_nil, or_false] at hx
  rcases hx with rfl | rfl | rfl | rfl
  · exact enc_ok
  · exact cut_ok
  · exact prefixC_ok
  · exact awakeC_ok
theorem hides_tree (t : Int) (s : ByteArray) (k : DV → Option Unit) : bodyD Tryz.prog (env hidL noLp 0) Tryz.f4 [iv t, sv s] [] (fun d _ => k d) =
    bif decide ((↑(ByteArray.size s) : Int) > (16 : Int)) then k (DV.v (Value.bool true))
    else
      bif ByteArray.toList s == ByteArray.toList { data := #[] } then k (DV.v (Value.bool true))
      else
        bif decide (t < (0 : Int)) then k (DV.v (Value.bool true))
        else
          bif decide (t > (1099511627776 : Int)) then k (DV.v (Value.bool true))
          else
            bif
                holds
                  (Value.slice none (0 : Nat) (0 : Nat) = Value.slice none (0 : Nat) (0 : Nat) ∧
                    (0 : Int) = (0 : Int) ∧
                      false = false ∧
                        false = false ∧
                          (0 : Int) = (0 : Int) ∧
                            false = false ∧
                              (0 : Int) = (0 : Int) ∧
                                (0 : Int) ≤ t ∧
                                  t ≤ (1099511627776 : Int) ∧
                                    ((4 : Int) = (4 : Int) ∨
                                      (4 : Int) = (3 : Int) ∧ (1 : Nat) ≤ (0 : Nat) ∧ (0 : Nat) ≤ (16 : Nat))) then
              bif
                  holds
                    (Value.slice none (0 : Nat) (0 : Nat) = Value.slice none (0 : Nat) (0 : Nat) ∧
                      (0 : Int) = (0 : Int) ∧
                        false = false ∧
                          false = false ∧
                            (0 : Int) = (0 : Int) ∧
                              false = false ∧
                                (0 : Int) = (0 : Int) ∧
                                  (0 : Int) ≤ t ∧
                                    t ≤ (1099511627776 : Int) ∧
                                      ((3 : Int) = (4 : Int) ∨
                                        (3 : Int) = (3 : Int) ∧
                                          (1 : Nat) ≤ ByteArray.size s ∧ ByteArray.size s ≤ (16 : Nat))) then
                bif
                    holds
                      (Value.slice none (0 : Nat) (0 : Nat) = Value.slice none (0 : Nat) (0 : Nat) ∧
                        (0 : Int) = (0 : Int) ∧
                          false = false ∧
                            false = false ∧
                              (0 : Int) = (0 : Int) ∧
                                false = false ∧
                                  (0 : Int) = (0 : Int) ∧
                                    (0 : Int) ≤ t ∧
                                      t ≤ (1099511627776 : Int) ∧
                                        ((4 : Int) = (4 : Int) ∨
                                          (4 : Int) = (3 : Int) ∧
                                            (1 : Nat) ≤ ByteArray.size s ∧ ByteArray.size s ≤ (16 : Nat))) then
                  bif ByteArray.toList s == ByteArray.toList { data := #[] } then
                    bif decide (Lib.indexByte (Array.toList (ByteArray.data (hidS t))) (32 : UInt8) ≥ (0 : Int)) then
                      bif decide ((0 : Int) ≤ Lib.indexByte (Array.toList (ByteArray.data (hidS t))) (32 : UInt8)) then
                        bif
                            decide
                              (Lib.indexByte (Array.toList (ByteArray.data (hidS t))) (32 : UInt8) ≤
                                (↑(ByteArray.size (hidS t)) : Int)) then
                          bif
                              decide
                                ((0 : Int) ≤
                                  IntKind.wrap IntKind.i64
                                    (Lib.indexByte (Array.toList (ByteArray.data (hidS t))) (32 : UInt8) + (1 : Int))) then
                            bif
                                decide
                                  (IntKind.wrap IntKind.i64
                                      (Lib.indexByte (Array.toList (ByteArray.data (hidS t))) (32 : UInt8) + (1 : Int)) ≤
                                    (↑(ByteArray.size (hidS t)) : Int)) then
                              k (DV.v (Value.bool false))
                            else none
                          else none
                        else none
                      else none
                    else k (DV.v (Value.bool false))
                  else
                    bif decide (Lib.indexByte (Array.toList (ByteArray.data (hidS t))) (32 : UInt8) ≥ (0 : Int)) then
                      bif decide ((0 : Int) ≤ Lib.indexByte (Array.toList (ByteArray.data (hidS t))) (32 : UInt8)) then
                        bif
                            decide
                              (Lib.indexByte (Array.toList (ByteArray.data (hidS t))) (32 : UInt8) ≤
                                (↑(ByteArray.size (hidS t)) : Int)) then
                          bif
                              decide
                                ((0 : Int) ≤
                                  IntKind.wrap IntKind.i64
                                    (Lib.indexByte (Array.toList (ByteArray.data (hidS t))) (32 : UInt8) + (1 : Int))) then
                            bif
                                decide
                                  (IntKind.wrap IntKind.i64
                                      (Lib.indexByte (Array.toList (ByteArray.data (hidS t))) (32 : UInt8) + (1 : Int)) ≤
                                    (↑(ByteArray.size (hidS t)) : Int)) then
                              bif !ByteArray.toList (hidS t) == ByteArray.toList (keyS t s) then
                                bif
                                    ByteArray.toList
                                        (ByteArray.extract (hidS t)
                                          (Int.toNat
                                            (IntKind.wrap IntKind.i64
                                              (Lib.indexByte (Array.toList (ByteArray.data (hidS t))) (32 : UInt8) +
                                                (1 : Int))))
                                          (ByteArray.size (hidS t))) ==
                                      ByteArray.toList
                                        {
                                          data :=
                                            #[(104 : UInt8), (105 : UInt8), (100 : UInt8), (100 : UInt8), (101 : UInt8),
                                              (110 : UInt8)] } then
                                  bif
                                      decide
                                        (ByteArray.size
                                              (ByteArray.extract (hidS t) (0 : Nat)
                                                (Int.toNat
                                                  (Lib.indexByte (Array.toList (ByteArray.data (hidS t))) (32 : UInt8)))) +
                                            (5 : Nat) ≤
                                          (9223372036854775807 : Nat)) then
                                    bif
                                        Lib.hasPrefix (Array.toList (ByteArray.data (keyS t s)))
                                          (Array.toList
                                            (ByteArray.data
                                              (ByteArray.extract (hidS t) (0 : Nat)
                                                  (Int.toNat
                                                    (Lib.indexByte (Array.toList (ByteArray.data (hidS t)))
                                                      (32 : UInt8))) ++
                                                {
                                                  data :=
                                                    #[(32 : UInt8), (107 : UInt8), (101 : UInt8), (121 : UInt8),
                                                      (32 : UInt8)] }))) then
                                      bif
                                          (↑(ByteArray.size (keyS t s)) : Int) ==
                                            IntKind.wrap IntKind.i64
                                              (IntKind.wrap IntKind.i64
                                                  ((↑(ByteArray.size
                                                          (ByteArray.extract (hidS t) (0 : Nat)
                                                            (Int.toNat
                                                              (Lib.indexByte (Array.toList (ByteArray.data (hidS t)))
                                                                (32 : UInt8))))) :
                                                      Int) +
                                                    (5 : Int)) +
                                                IntKind.wrap IntKind.i64 ((2 : Int) * (↑(ByteArray.size s) : Int))) then
                                        k (DV.v (Value.bool true))
                                      else k (DV.v (Value.bool false))
                                    else k (DV.v (Value.bool false))
                                  else none
                                else k (DV.v (Value.bool false))
                              else k (DV.v (Value.bool false))
                            else none
                          else none
                        else none
                      else none
                    else
                      bif !ByteArray.toList (hidS t) == ByteArray.toList (keyS t s) then k (DV.v (Value.bool false))
                      else k (DV.v (Value.bool false))
                else none
              else none
            else none := by
  kernel_rfl

theorem dec_ge : ∀ (u : Nat), ∀ b ∈ Lib.decDigits u, 48 ≤ b.toNat ∧ b.toNat ≤ 57 := by
  intro u
  induction u using Nat.strongRecOn with
  | _ u ih =>
    intro b hb
    rw [Lib.decDigits] at hb
    have hd : ∀ k, k < 10 → 48 ≤ (UInt8.ofNat (48 + k)).toNat ∧ (UInt8.ofNat (48 + k)).toNat ≤ 57 := by decide
    split at hb
    · rename_i h
      obtain rfl := List.mem_singleton.1 hb
      exact hd u h
    · rcases List.mem_append.1 hb with h | h
      · exact ih (u / 10) (by omega) b h
      · obtain rfl := List.mem_singleton.1 h
        exact hd _ (Nat.mod_lt _ (by decide))
theorem itoa_dig {t : Int} (h : 0 ≤ t) : ∀ b ∈ Lib.itoa t, 48 ≤ b.toNat ∧ b.toNat ≤ 57 := by
  unfold Lib.itoa
  rw [if_neg (by omega)]
  exact dec_ge _
theorem index_past (l r : List UInt8) (c : UInt8) (h : ∀ b ∈ l, b ≠ c) : Lib.indexByte (l ++ c :: r) c = (l.length : Int) := by
  induction l with
  | nil => simp [Lib.indexByte]
  | cons b l ih =>
    have h1 := h b (List.mem_cons_self ..)
    have h2 := ih fun x hx => h x (List.mem_cons_of_mem _ hx)
    rw [List.cons_append, Lib.indexByte, if_neg (by simpa using h1), h2, if_neg (by simp), List.length_cons]
    omega
theorem hid_list (t : Int) : (hidS t).data.toList = Lib.itoa t ++ 32 :: HID.data.toList := by
  show Lib.join [Lib.itoa t, HID.data.toList] [32] = _
  simp [Lib.join_cons, Lib.joinTail, HID]
theorem key_list (t : Int) (s : ByteArray) : (keyS t s).data.toList = Lib.itoa t ++ 32 :: 107 :: 101 :: 121 :: 32 :: (hexS s s.size).data.toList := by
  show Lib.join [Lib.itoa t, [107, 101, 121], (hexS s s.size).data.toList] [32] = _
  simp [Lib.join_cons, Lib.joinTail]
theorem size_list (s : ByteArray) : s.size = s.data.toList.length := by simp
theorem hides_true {t : Int} {s : ByteArray} (h0 : 0 ≤ t) (h1 : t ≤ 1099511627776) (g1 : 1 ≤ s.size) (g2 : s.size ≤ 16) :
    bodyD Tryz.prog (env hidL noLp 0) Tryz.f4 [iv t, sv s] [] (fun d _ => isD (bv true) d) = some () := by
  have hne : (s.toList == (⟨#[]⟩ : ByteArray).toList) = false := by
    rw [beq_eq_false_iff_ne, Lib.toList_data, Lib.toList_data]
    intro e
    have := congrArg List.length e
    rw [← size_list] at this
    have h0 : s.size = 0 := this
    omega
  have hI : Lib.indexByte (hidS t).data.toList 32 = ((Lib.itoa t).length : Int) := by
    rw [hid_list]
    refine index_past _ _ _ fun b hb e => ?_
    have := itoa_dig h0 b hb
    rw [e] at this
    exact absurd this.1 (by decide)
  have hl := itoa_len h0 h1
  generalize hn : (Lib.itoa t).length = n at *
  have hsz : (hidS t).size = n + 7 := by
    rw [size_list, hid_list, List.length_append, hn]
    rfl
  have hw : IntKind.wrap .i64 ((n : Int) + 1) = n + 1 := W_in (by omega) (by omega)
  have hx : ((hidS t).extract 0 n).data.toList = Lib.itoa t := by
    rw [Lib.extract_eq, hid_list]
    simp [hn]
  have hxs : ((hidS t).extract 0 n).size = n := by rw [size_list, hx, hn]
  have hks : (keyS t s).size = n + 5 + 2 * s.size := by
    have := hexS_size s s.size
    rw [size_list] at this
    rw [size_list, key_list, List.length_append, hn]
    simp only [List.length_cons, this]
    omega
  rw [hides_tree, hI, hw, hsz, hks, show ((n : Int) + 1).toNat = n + 1 by omega, Int.toNat_natCast, hxs]
  have hd1 : ((hidS t).extract (n + 1) (n + 7)).toList = HID.toList := by
    rw [Lib.toList_data, Lib.toList_data, Lib.extract_eq, hid_list]
    simp [hn, List.drop_append, List.drop_eq_nil_of_le, HID]
  have hd2 : ((hidS t).toList == (keyS t s).toList) = false := by
    rw [beq_eq_false_iff_ne, Lib.toList_data, Lib.toList_data, hid_list, key_list]
    intro e
    have := List.append_cancel_left e
    simp [HID] at this
  have hd3 : Lib.hasPrefix (keyS t s).data.toList ((hidS t).extract 0 n ++ ⟨#[32, 107, 101, 121, 32]⟩).data.toList = true := by
    rw [ByteArray.data_append, Array.toList_append, hx, key_list]
    unfold Lib.hasPrefix
    rw [List.isPrefixOf_iff_prefix]
    exact ⟨(hexS s s.size).data.toList, by simp⟩
  refine dF (by omega) (cF hne (dF (by omega) (dF (by omega) (hT ⟨rfl, rfl, rfl, rfl, rfl, rfl, rfl, h0, h1, .inl rfl⟩ (hT ⟨rfl, rfl, rfl, rfl, rfl, rfl, rfl, h0, h1, .inr ⟨rfl, g1, g2⟩⟩ (hT ⟨rfl, rfl, rfl, rfl, rfl, rfl, rfl, h0, h1, .inl rfl⟩ (cF hne ?_)))))))
  refine dT (by omega) (dT (by omega) (dT (by omega) (dT (by omega) (dT (by omega) (cT (by rw [hd2]; rfl) (cT ?_ (dT (by omega) (cT hd3 (cT ?_ (isD_of rfl))))))))))
  · exact beq_iff_eq.2 hd1
  · rw [W_in (x := (n : Int) + 5) (by omega) (by omega), W_in (x := 2 * (s.size : Int)) (by omega) (by omega), W_in (by omega) (by omega), beq_iff_eq]
    omega
theorem hides_all (t : Int) (s : ByteArray) : bodyD Tryz.prog (env hidL noLp 0) Tryz.f4 [iv t, sv s] [] (fun d _ => isD (bv true) d) = some () := by
  by_cases a1 : (s.size : Int) > 16
  · exact (hides_tree t s _).trans (dT a1 (isD_of rfl))
  by_cases a2 : (s.toList == (⟨#[]⟩ : ByteArray).toList) = true
  · exact (hides_tree t s _).trans (dF a1 (cT a2 (isD_of rfl)))
  have a2' := Bool.eq_false_iff.2 a2
  by_cases a3 : t < 0
  · exact (hides_tree t s _).trans (dF a1 (cF a2' (dT a3 (isD_of rfl))))
  by_cases a4 : t > 1099511627776
  · exact (hides_tree t s _).trans (dF a1 (cF a2' (dF a3 (dT a4 (isD_of rfl)))))
  refine hides_true (by omega) (by omega) ?_ (by omega)
  refine Nat.pos_of_ne_zero fun h0 => a2 ?_
  rw [beq_iff_eq, Lib.toList_data, Lib.toList_data]
  exact List.length_eq_zero_iff.1 (by rw [← size_list, h0])
noncomputable def hidesC : ConF := fun args k => match args with
  | [.v (.int .i64 _), .v (.string _)] => k (fun _ => (bv true, []))
  | _ => none
theorem hidesC_ok : ConOk Tryz.prog stJ 4 hidesC := by
  refine con_flat (mg := []) (l := hidL) (lp := noLp) (n := 0) (glOk stJ) hidL_ok Tryz.func4 (by kernel_rfl) (by kernel_rfl) (ext_none fun _ _ _ => rfl) (fun _ _ _ h => nomatch h) fun args k hk => ?_
  unfold hidesC at hk
  split at hk <;> first | (cases hk; done) | skip
  rename_i t s
  exact ⟨_, _, .self (.self .nil), flR_clo rfl, hk, hides_all t s⟩
end Go.Proofs.YtiphckeipbfbmaaGreatDoor
