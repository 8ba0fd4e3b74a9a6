/-
  Read of the lines of ticks: the number of records, or the line at which a time decreases.
  Conditions: the list has at most ten ticks, whose times are in range; what the library's contracts ask of the memory.
-/
import Derived.Test.YtiphckeipbfbmaaGreatDoorJText
import Derived.Test.YtiphckeipbfbmaaGreatDoorDeGu
namespace Go.Proofs.YtiphckeipbfbmaaGreatDoor
open Go Go.AE Go.DE Go.RowKit

def headS (a : ByteArray) : ByteArray := ⟨(Lib.cut a.data.toList NL.data.toList).1.toArray⟩
def restS (a : ByteArray) : ByteArray := ⟨(Lib.cut a.data.toList NL.data.toList).2.1.toArray⟩
open Classical in
noncomputable def timeS (l : ByteArray) : Int := if h : ∃ t, l = tickS t ∧ okT t then h.choose else 0
def cutV : List Value → Option Value
  | [.string s, .string sep] => if s.size < 4294967281 then some (.tuple #[.string ⟨(Lib.cut s.data.toList sep.data.toList).1.toArray⟩, .string ⟨(Lib.cut s.data.toList sep.data.toList).2.1.toArray⟩, .bool (Lib.cut s.data.toList sep.data.toList).2.2]) else none
  | _ => none
open Classical in
noncomputable def decV : List Value → Option Value
  | [.string s] => if ∃ t, s = tickS t ∧ okT t then some (.tuple #[tickV (timeS s), .int .i64 0]) else none
  | _ => none
noncomputable def stR : AE.Stat := ⟨fun _ _ => none, fun f args σ => match f with
  | 16 => RG.app σ (keepX cutV args)
  | 18 => RG.app σ (keepX decV args)
  | f => stJ.ext f args σ⟩
noncomputable def gdR : Gd := fun f args σ => match f, args with
  | 16, [.string a, .string b] => some (cutV [.string a, .string b] = some (.tuple #[.string (headS a), .string (restS a), .bool true]), .tuple #[.string (headS a), .string (restS a), .bool true], σ)
  | 18, [.string a] => some (decV [.string a] = some (.tuple #[tickV (timeS a), .int .i64 0]), .tuple #[tickV (timeS a), .int .i64 0], σ)
  | _, _ => none
abbrev RT := Option (Nat × Int × Int)
def kR : Value → Heap → RT := fun v _ => match v with
  | .tuple ⟨[.slice _ n _, .int .i64 a, .int .i64 e]⟩ => some (n, a, e)
  | _ => none
/-- What Read comes to, round by round. -/
noncomputable def rT : Nat → Nat → Int → ByteArray → RT
  | 0, _, _, _ => none
  | m + 1, i, z, s =>
    bif !ByteArray.toList s == ByteArray.toList { data := #[] } then
      bif holds (cutV [.string s, .string { data := #[(10 : UInt8)] }] = some (.tuple #[.string (headS s), .string (restS s), .bool true])) then
        bif holds (decV [.string (headS s)] = some (.tuple #[tickV (timeS (headS s)), .int .i64 0])) then
          match i with
          | 0 => rT m 1 (timeS (headS s)) (restS s)
          | i + 1 => bif decide (timeS (headS s) < z) then some (0, ((i + 2 : Nat) : Int), 10) else rT m (i + 2) (timeS (headS s)) (restS s)
        else none
      else none
    else some (i, 0, 0)
theorem read_tree (s : ByteArray) : runC Tryz.prog stR gdR 12 5 23 [.string s] [] kR = rT 12 0 0 s := by
  kernel_rfl
theorem tick_nl {t : Int} (h : 0 ≤ t) : ∀ b ∈ (tickS t).data.toList, b ≠ 10 := by
  rw [tick_list]
  intro b hb e
  subst e
  rcases List.mem_append.1 hb with hb | hb
  · exact absurd (itoa_dig h _ hb).1 (by decide)
  · revert hb; decide
theorem cut_line {t : Int} (h : 0 ≤ t) (r : List Int) : Lib.cut (textS (t :: r)).data.toList NL.data.toList = ((tickS t).data.toList, textL r, true) := by
  have e : (textS (t :: r)).data.toList = (tickS t).data.toList ++ 10 :: textL r := rfl
  have hi : Lib.index (textS (t :: r)).data.toList [10] = ((tickS t).data.toList.length : Int) := by
    rw [Lib.index_one, e]
    exact index_past _ _ _ (tick_nl h)
  show Lib.cut _ [10] = _
  unfold Lib.cut
  rw [hi, e, if_pos (by omega), Int.toNat_natCast, List.take_left', List.drop_append]
  · simp
  · rfl
theorem head_line {t : Int} (h : 0 ≤ t) (r : List Int) : headS (textS (t :: r)) = tickS t := by
  unfold headS
  rw [cut_line h]
theorem rest_line {t : Int} (h : 0 ≤ t) (r : List Int) : restS (textS (t :: r)) = textS r := by
  unfold restS
  rw [cut_line h]
  rfl
theorem time_line {t : Int} (h : okT t) : timeS (tickS t) = t := by
  have he : ∃ u, tickS t = tickS u ∧ okT u := ⟨t, rfl, h⟩
  unfold timeS
  rw [dif_pos he]
  exact (tick_inj h.1 he.choose_spec.2.1 he.choose_spec.1).symm
theorem rT_true : ∀ (l : List Int) (m i : Nat) (z : Int), l.length < m → l.length ≤ 100 → (∀ t ∈ l, okT t) → (i = 0 → z = 0) →
    rT m i z (textS l) = some (if downAt z i l = 0 then i + l.length else 0, (downAt z i l : Int), if downAt z i l = 0 then 0 else 10)
  | _, 0, _, _, h, _, _, _ => absurd h (Nat.not_lt_zero _)
  | [], m + 1, i, z, _, _, _, _ => by
    have h1 : (!ByteArray.toList (textS []) == ByteArray.toList { data := #[] }) = false := by
      rw [show textS [] = { data := #[] } from rfl]
      simp
    unfold rT
    rw [h1]
    rfl
  | t :: r, m + 1, i, z, hm, hn, h, hz => by
    have ht := h t (List.mem_cons_self ..)
    have hr : ∀ x ∈ r, okT x := fun x hx => h x (List.mem_cons_of_mem _ hx)
    have hm' : r.length < m := by simpa using hm
    have hn' : r.length ≤ 100 := by simp only [List.length_cons] at hn; omega
    have hsz : (textS (t :: r)).size < 4294967281 := by
      have := textL_len (t :: r) h
      rw [size_list]
      show (textL (t :: r)).length < _
      omega
    have h1 : (!ByteArray.toList (textS (t :: r)) == ByteArray.toList { data := #[] }) = true := by
      rw [Bool.not_eq_true', beq_eq_false_iff_ne]
      intro e
      have e1 : (ByteArray.toList (textS (t :: r))) = textL (t :: r) := by rw [Lib.toList_data]; rfl
      have e2 : (ByteArray.toList { data := #[] }) = [] := by rw [Lib.toList_data]
      rw [e1, e2] at e
      simp [textL] at e
    have h2 : cutV [.string (textS (t :: r)), .string { data := #[(10 : UInt8)] }] = some (.tuple #[.string (headS (textS (t :: r))), .string (restS (textS (t :: r))), .bool true]) := by
      unfold cutV
      simp only
      rw [if_pos hsz]
      have : Lib.cut (textS (t :: r)).data.toList [10] = ((tickS t).data.toList, textL r, true) := cut_line ht.1 r
      simp only [headS, restS, cut_line ht.1 r, this]
    have h3 : decV [.string (headS (textS (t :: r)))] = some (.tuple #[tickV (timeS (headS (textS (t :: r)))), .int .i64 0]) := by
      unfold decV
      simp only
      rw [if_pos ⟨t, head_line ht.1 r, ht⟩]
    have e3 : timeS (headS (textS (t :: r))) = t := by rw [head_line ht.1, time_line ht]
    unfold rT
    rw [h1, holds_eq.2 h2, holds_eq.2 h3]
    simp only [cond_true]
    rw [e3, rest_line ht.1, downAt]
    cases i with
    | zero =>
      obtain rfl := hz rfl
      simp only
      rw [if_neg (show ¬ t < 0 by have := ht.1; omega), rT_true r m 1 t hm' hn' hr (by omega), List.length_cons]
      simp only [show 1 + r.length = 0 + (r.length + 1) by omega]
    | succ i =>
      simp only
      by_cases hlt : t < z
      · rw [if_pos hlt, decide_eq_true hlt]
        simp only [cond_true, Nat.succ_ne_zero, if_false]
      · rw [if_neg hlt, decide_eq_false hlt]
        simp only [cond_false]
        rw [rT_true r m (i + 2) t hm' hn' hr (by omega), List.length_cons]
        simp only [show i + 1 + (r.length + 1) = i + 2 + r.length by omega]
theorem fnOk_cut {W : World} (h : ∃ m, W.cell? ⟨0, 0, none⟩ = some (.int .i64 m)) : FnOk Tryz.prog W 16 (fun a σ => RG.app σ (keepX cutV a)) := by
  obtain ⟨m, hm⟩ := h
  refine fnOk_keep fun args v hg => ?_
  unfold cutV at hg
  split at hg <;> first | (cases hg; done) | skip
  rename_i s sep
  split at hg <;> first | (cases hg; done) | skip
  rename_i hs
  obtain rfl := Option.some.inj hg
  exact ⟨rfl, rfl, fun w hw => (Tryz.strings_Cut s sep m w hs (cell_below hm hw)).mono fun e w' ⟨he, n, hw'⟩ => ⟨he, hw' ▸ (below_drewN (.refl _ _) n)⟩⟩
theorem extR_ok {W : World} (h : Tabs2 W) : CallOk Tryz.prog W stR.ext := by
  intro f
  by_cases h1 : f = 16
  · subst h1
    exact fnOk_cut h.len
  by_cases h2 : f = 18
  · subst h2
    refine fnOk_keep (g := decV) fun args v hg => ?_
    unfold decV at hg
    split at hg <;> first | (cases hg; done) | skip
    rename_i s
    split at hg <;> first | (cases hg; done) | skip
    rename_i hs
    obtain rfl := Option.some.inj hg
    obtain ⟨t, rfl, ht⟩ := hs
    rw [time_line ht]
    exact ⟨rfl, rfl, fun w hw => decode_calls h hw ht.1 ht.2⟩
  · intro args σ v σ' hx
    refine ext_ok h.tabs f args σ v σ' ?_
    have e : stR.ext f args σ = stJ.ext f args σ := by
      unfold stR
      simp only
    rw [← e]
    exact hx
theorem gdR_ok : GdExt stR gdR := by
  intro f args σ p v σ' hg hp
  unfold gdR at hg
  split at hg <;> first | (cases hg; done) | skip
  · simp only [Option.some.injEq, Prod.mk.injEq] at hg
    obtain ⟨rfl, rfl, rfl⟩ := hg
    show RG.app σ (keepX cutV _) = _
    unfold keepX
    rw [hp]
    rfl
  · simp only [Option.some.injEq, Prod.mk.injEq] at hg
    obtain ⟨rfl, rfl, rfl⟩ := hg
    show RG.app σ (keepX decV _) = _
    unfold keepX
    rw [hp]
    rfl
theorem stR_good (W : World) : GoodSt W stR := fun b i v h => by cases h
/-- Read of the lines of ticks. -/
theorem read_calls {W w : World} (h : Tabs2 W) (hw : Below W.heap.size W w) (ts : List Int) (hn : ts.length ≤ 10) (hr : ∀ t ∈ ts, okT t) :
    Calls Tryz.prog 23 #[.string (textS ts)] w fun e w' => (∃ p c, e = .returned (.tuple #[.slice p (if downAt 0 0 ts = 0 then ts.length else 0) c, .int .i64 (downAt 0 0 ts), .int .i64 (if downAt 0 0 ts = 0 then 0 else 10)])) ∧ Below w.heap.size w w' := by
  have ht := (read_tree (textS ts)).trans (rT_true ts 12 0 0 (by omega) (by omega) hr fun _ => rfl)
  rw [Nat.zero_add] at ht
  obtain ⟨v, σ', hrun, hk⟩ := runC_some gdR_ok _ _ _ _ _ ht
  have hR0 : Rel W (fun _ => none) (hp []) w := .bare hw _
  refine (((runF_sound (n := 12) (stR_good W) (extR_ok h) follows 5).fn 23 (by rw [Tryz.func23]; rfl) [.string (textS ts)] [] v σ' hrun).2 (fun _ => none) w [.string (textS ts)] hR0 (fun _ _ _ => rfl) (.cons (.string _) (.nil _))).mono fun e w' he => ?_
  obtain ⟨v', rfl, ρ', hn', hv⟩ := he
  refine ⟨?_, ⟨hn'.rel.below.os.trans hw.os.symm, hn'.rel.below.tape.trans hw.tape.symm, hn'.rel.below.output.trans hw.output.symm, hn'.fr.size, fun k hk => hn'.fr.fr k hk fun ⟨_, _, _, _, e1, _⟩ => (nomatch e1)⟩⟩
  unfold kR at hk
  split at hk <;> first | (cases hk; done) | skip
  rename_i v p n c a e
  simp only [Option.some.injEq, Prod.mk.injEq] at hk
  obtain ⟨h1, h2, h3⟩ := hk
  cases hv with
  | tuple _ x' e1 e2 =>
    have hs : x'.size = 3 := e1.symm
    have a0 := e2 0 _ x'[0] rfl (Array.getElem?_eq_getElem (by omega))
    have a1 := e2 1 _ x'[1] rfl (Array.getElem?_eq_getElem (by omega))
    have a2 := e2 2 _ x'[2] rfl (Array.getElem?_eq_getElem (by omega))
    obtain ⟨p', c', b0⟩ : ∃ p' c', x'[0] = .slice p' n c' := by
      generalize x'[0] = y at a0
      cases a0 <;> exact ⟨_, _, rfl⟩
    have b1 : x'[1] = .int .i64 a := by
      generalize x'[1] = y at a1
      cases a1; rfl
    have b2 : x'[2] = .int .i64 e := by
      generalize x'[2] = y at a2
      cases a2; rfl
    have hx : x' = #[.slice p' n c', .int .i64 a, .int .i64 e] := by
      apply Array.ext
      · exact hs
      · intro i hi hi'
        have : i = 0 ∨ i = 1 ∨ i = 2 := by omega
        rcases this with rfl | rfl | rfl
        · exact b0
        · exact b1
        · exact b2
    rw [hx, h1, h2, h3]
    exact ⟨p', c', rfl⟩
#print axioms read_calls
end Go.Proofs.YtiphckeipbfbmaaGreatDoor
