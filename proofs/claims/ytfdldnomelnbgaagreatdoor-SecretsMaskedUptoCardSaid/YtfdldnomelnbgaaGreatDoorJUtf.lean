/-
 Plain laws: a string that the reference takes for well formed is one for the program too, with the same characters.
 Conditions: none.

 Plain laws: what the reference takes for proper is proper for the program; alike terminals are shown alike.
 Conditions: none.
-/
import Derived.Test.YtfdldnomelnbgaaGreatDoorJPla
import Derived.Lib.ValidLaws
import Derived.Test.YtfdldnomelnbgaaGreatDoorJAtt
import Derived.Test.YtfdldnomelnbgaaGreatDoorJGly
import Derived.Test.YtfdldnomelnbgaaGreatDoorJPr2
namespace Go.Proofs.YtfdldnomelnbgaaGreatDoor
open Go Go.AE Go.DE Go.RowKit

/-- The characters that have an encoding of their own. -/
def Scal (v : Int) : Prop := (0 ≤ v ∧ v < 55296) ∨ (57344 ≤ v ∧ v ≤ 1114111)
/-- The bytes of a character. -/
def enN (c : Nat) : List Nat :=
 if c < 128 then [c] else if c < 2048 then [192 + c / 64, 128 + c % 64] else if c < 65536 then [224 + c / 4096, 128 + c / 64 % 64, 128 + c % 64]
 else [240 + c / 262144, 128 + c / 4096 % 64, 128 + c / 64 % 64, 128 + c % 64]
theorem td (c n : Nat) : Int.tdiv (c : Int) (n : Int) = ((c / n : Nat) : Int) := rfl
theorem tm (c n : Nat) : Int.tmod (c : Int) (n : Int) = ((c % n : Nat) : Int) := rfl
theorem w32 {x : Int} (h1 : 0 ≤ x) (h2 : x < 2147483648) : IntKind.i32.wrap x = x := by rw [IntKind.wrap_i32]; omega
theorem w8 {x : Int} (h1 : 0 ≤ x) (h2 : x < 256) : IntKind.u8.wrap x = x := by rw [IntKind.wrap_u8]; omega
theorem enB_nat {c : Nat} (h : Scal c) : enB (c : Int) = (enN c).map (fun n : Nat => (n : Int)) := by
 have h : (c : Int) < 55296 ∨ (57344 ≤ (c : Int) ∧ (c : Int) ≤ 1114111) := by rcases h with h | h <;> omega
 unfold enB enN
 rw [if_neg (by omega), if_neg (by omega), if_neg (by omega)]
 by_cases h1 : c < 128
 ·rw [if_pos (by omega), if_pos h1]
  simp only [enc1, List.map_cons, List.map_nil, w8 (x := (c : Int)) (by omega) (by omega)]
 rw [if_neg (by omega), if_neg h1]
 have e64 : Int.tdiv (c : Int) 64 = ((c / 64 : Nat) : Int) := td c 64
 have e4096 : Int.tdiv (c : Int) 4096 = ((c / 4096 : Nat) : Int) := td c 4096
 have e262144 : Int.tdiv (c : Int) 262144 = ((c / 262144 : Nat) : Int) := td c 262144
 have m64 : Int.tmod (c : Int) 64 = ((c % 64 : Nat) : Int) := tm c 64
 have m6464 : Int.tmod ((c / 64 : Nat) : Int) 64 = ((c / 64 % 64 : Nat) : Int) := tm (c / 64) 64
 have m4096 : Int.tmod ((c / 4096 : Nat) : Int) 64 = ((c / 4096 % 64 : Nat) : Int) := tm (c / 4096) 64
 by_cases h2 : c < 2048
 ·rw [if_pos (by omega), if_pos h2]
  simp only [enc2, List.map_cons, List.map_nil, e64, m64]
  rw [w32 (x := ((c / 64 : Nat) : Int)) (by omega) (by omega), w32 (x := 192 + ((c / 64 : Nat) : Int)) (by omega) (by omega), w8 (x := 192 + ((c / 64 : Nat) : Int)) (by omega) (by omega),
   w32 (x := 128 + ((c % 64 : Nat) : Int)) (by omega) (by omega), w8 (x := 128 + ((c % 64 : Nat) : Int)) (by omega) (by omega)]
  simp only [Int.natCast_add]
  rfl
 rw [if_neg (by omega), if_neg h2]
 by_cases h3 : c < 65536
 ·rw [if_pos (by omega), if_pos h3]
  simp only [enc3, List.map_cons, List.map_nil, e64, m64, e4096]
  rw [w32 (x := ((c / 4096 : Nat) : Int)) (by omega) (by omega), w32 (x := 224 + ((c / 4096 : Nat) : Int)) (by omega) (by omega), w8 (x := 224 + ((c / 4096 : Nat) : Int)) (by omega) (by omega),
   w32 (x := ((c / 64 : Nat) : Int)) (by omega) (by omega), m6464, w32 (x := 128 + ((c / 64 % 64 : Nat) : Int)) (by omega) (by omega), w8 (x := 128 + ((c / 64 % 64 : Nat) : Int)) (by omega) (by omega),
   w32 (x := 128 + ((c % 64 : Nat) : Int)) (by omega) (by omega), w8 (x := 128 + ((c % 64 : Nat) : Int)) (by omega) (by omega)]
  simp only [Int.natCast_add]
  rfl
 ·rw [if_neg (by omega), if_neg h3]
  simp only [enc4, List.map_cons, List.map_nil, e64, m64, e4096, e262144]
  rw [w32 (x := ((c / 262144 : Nat) : Int)) (by omega) (by omega), w32 (x := 240 + ((c / 262144 : Nat) : Int)) (by omega) (by omega), w8 (x := 240 + ((c / 262144 : Nat) : Int)) (by omega) (by omega),
   w32 (x := ((c / 4096 : Nat) : Int)) (by omega) (by omega), m4096, w32 (x := 128 + ((c / 4096 % 64 : Nat) : Int)) (by omega) (by omega), w8 (x := 128 + ((c / 4096 % 64 : Nat) : Int)) (by omega) (by omega),
   w32 (x := ((c / 64 : Nat) : Int)) (by omega) (by omega), m6464, w32 (x := 128 + ((c / 64 % 64 : Nat) : Int)) (by omega) (by omega), w8 (x := 128 + ((c / 64 % 64 : Nat) : Int)) (by omega) (by omega),
   w32 (x := 128 + ((c % 64 : Nat) : Int)) (by omega) (by omega), w8 (x := 128 + ((c % 64 : Nat) : Int)) (by omega) (by omega)]
  simp only [Int.natCast_add]
  rfl
/-- The bytes of characters. -/
def byN (c : Nat) : List UInt8 := (enN c).map UInt8.ofNat
def byL (zs : List Int) : List UInt8 := zs.flatMap fun v => byN v.toNat
theorem ofN {n : Nat} (h : n < 256) : (UInt8.ofNat n).toNat = n := by rw [UInt8.toNat_ofNat']; omega
theorem dec_enc {c : Nat} (h : Scal c) (rest : List UInt8) : Lib.decodeL (byN c ++ rest) = (c, (byN c).length) := by
 have h : (c : Int) < 55296 ∨ (57344 ≤ (c : Int) ∧ (c : Int) ≤ 1114111) := by rcases h with h | h <;> omega
 rw [Lib.decodeL_N]
 unfold byN enN
 by_cases h1 : c < 128
 ·rw [if_pos h1]
  simp only [List.map_cons, List.map_nil, List.cons_append, List.nil_append, List.getD_cons_zero, List.length_cons, List.length_nil]
  rw [ofN (by omega)]
  unfold Lib.decodeN
  rw [if_pos h1]
 rw [if_neg h1]
 by_cases h2 : c < 2048
 ·rw [if_pos h2]
  simp only [List.map_cons, List.map_nil, List.cons_append, List.nil_append, List.getD_cons_zero, List.getD_cons_succ, List.length_cons, List.length_nil]
  rw [ofN (n := 192 + c / 64) (by omega), ofN (n := 128 + c % 64) (by omega)]
  unfold Lib.decodeN
  rw [if_neg (by omega), if_pos (by omega), if_pos (by omega)]
  exact Prod.ext (by show (192 + c / 64) % 32 * 64 + (128 + c % 64) % 64 = c; omega) rfl
 rw [if_neg h2]
 by_cases h3 : c < 65536
 ·rw [if_pos h3]
  simp only [List.map_cons, List.map_nil, List.cons_append, List.nil_append, List.getD_cons_zero, List.getD_cons_succ, List.length_cons, List.length_nil]
  rw [ofN (n := 224 + c / 4096) (by omega), ofN (n := 128 + c / 64 % 64) (by omega), ofN (n := 128 + c % 64) (by omega)]
  have e : (224 + c / 4096) % 16 * 4096 + (128 + c / 64 % 64) % 64 * 64 + (128 + c % 64) % 64 = c := by omega
  unfold Lib.decodeN
  rw [if_neg (by omega), if_neg (by omega), if_pos (by omega), e, if_pos (by omega)]
 ·rw [if_neg h3]
  simp only [List.map_cons, List.map_nil, List.cons_append, List.nil_append, List.getD_cons_zero, List.getD_cons_succ, List.length_cons, List.length_nil]
  rw [ofN (n := 240 + c / 262144) (by omega), ofN (n := 128 + c / 4096 % 64) (by omega), ofN (n := 128 + c / 64 % 64) (by omega), ofN (n := 128 + c % 64) (by omega)]
  have e : (240 + c / 262144) % 8 * 262144 + (128 + c / 4096 % 64) % 64 * 4096 + (128 + c / 64 % 64) % 64 * 64 + (128 + c % 64) % 64 = c := by omega
  unfold Lib.decodeN
  rw [if_neg (by omega), if_neg (by omega), if_neg (by omega), if_pos (by omega), e, if_pos (by omega)]
theorem byN_len (c : Nat) : 1 ≤ (byN c).length ∧ ((byN c).length = 1 → c < 128) := by
 unfold byN enN
 by_cases h1 : c < 128
 ·rw [if_pos h1]; simp; exact h1
 rw [if_neg h1]
 by_cases h2 : c < 2048
 ·rw [if_pos h2]; simp
 rw [if_neg h2]
 by_cases h3 : c < 65536
 ·rw [if_pos h3]; simp
 ·rw [if_neg h3]; simp
theorem scal_nat {v : Int} (h : Scal v) : Scal ((v.toNat : Nat) : Int) ∧ ((v.toNat : Nat) : Int) = v := by
 have e : ((v.toNat : Nat) : Int) = v := by rcases h with h | h <;> omega
 exact ⟨e.symm ▸ h, e⟩
theorem byL_cons (v : Int) (zs : List Int) : byL (v :: zs) = byN v.toNat ++ byL zs := rfl
theorem byN_ne (c : Nat) (r : List UInt8) : byN c ++ r ≠ [] := fun e => by
 have := (byN_len c).1
 rw [List.append_eq_nil_iff] at e
 rw [e.1] at this
 exact absurd this (by decide)
theorem valid_byL : ∀ {zs : List Int}, (∀ v ∈ zs, Scal v) → Lib.validD (byL zs) = true
 | [], _ => rfl
 | v :: zs, h => by
  obtain ⟨h1, h2⟩ := scal_nat (h v (by simp))
  rw [byL_cons, Lib.validD_step _ (byN_ne _ _), dec_enc h1, List.drop_left, if_neg ?_]
  ·exact valid_byL fun u hu => h u (by simp [hu])
  ·rintro ⟨q1, q2⟩
   have := (byN_len v.toNat).2 q2
   omega
theorem runes_byL (s : ByteArray) : ∀ (zs : List Int) (i b : Nat) (acc : Array Value), (∀ v ∈ zs, Scal v) → s.data.toList.drop i = byL zs → (byL zs).length ≤ b →
  (Conv.runesFrom s b i acc).toList = acc.toList ++ zs.map fun v => Value.int .i32 v
 | [], i, b, acc, _, hs, hb => by
  have hi : s.size ≤ i := by
   have : (s.data.toList.drop i).length = 0 := by rw [hs]; rfl
   rw [List.length_drop] at this
   have : s.size = s.data.toList.length := rfl
   omega
  cases b with
  | zero => simp [Conv.runesFrom]
  | succ b => unfold Conv.runesFrom; rw [if_neg (by omega)]; simp
 | v :: zs, i, b, acc, h, hs, hb => by
  obtain ⟨h1, h2⟩ := scal_nat (h v (by simp))
  have hl := (byN_len v.toNat).1
  rw [byL_cons, List.length_append] at hb
  obtain ⟨b, rfl⟩ : ∃ b', b = b' + 1 := ⟨b - 1, by omega⟩
  have hi : i < s.size := by
   have e : (s.data.toList.drop i).length = (byL (v :: zs)).length := by rw [hs]
   rw [List.length_drop, byL_cons, List.length_append] at e
   have : s.size = s.data.toList.length := rfl
   omega
  have hd : Utf8.decode s i = (v.toNat, (byN v.toNat).length) := by rw [← Lib.decodeL_drop, hs, byL_cons, dec_enc h1]
  unfold Conv.runesFrom
  rw [if_pos hi, hd]
  simp only
  rw [runes_byL s zs _ b _ (fun u hu => h u (by simp [hu])) ?_ (by omega)]
  ·simp only [Array.toList_push, List.append_assoc, List.map_cons, List.cons_append, List.nil_append]
   rw [show Int.ofNat v.toNat = v from h2]
  ·rw [← List.drop_drop, hs, byL_cons, List.drop_left]
theorem rune_eq {s : ByteArray} {zs : List Int} (h : ∀ v ∈ zs, Scal v) (hs : s.data.toList = byL zs) : runeN s = zs.length ∧ ∀ i, i < zs.length → runeAt s i = lw zs i := by
 have e := runes_byL s zs 0 s.size #[] h (by rw [List.drop_zero, hs]) (by rw [← hs]; exact Nat.le_refl _)
 have e : (Conv.runesFrom s s.size 0 #[]).toList = zs.map fun v => Value.int .i32 v := e
 refine ⟨?_, fun i hi => ?_⟩
 ·unfold runeN
  rw [← Array.length_toList, e, List.length_map]
 ·unfold runeAt
  rw [← Array.getElem?_toList, e, List.getElem?_map, List.getElem?_eq_getElem hi, Option.map_some]
  simp only [lw, List.getD_eq_getElem?_getD, List.getElem?_eq_getElem hi, Option.getD_some]
/-! ### What the reference's encoder answers -/
theorem enR_app (z : Nat → Int) : ∀ (m i : Nat) (b : List Int), enR z m i b = b ++ (List.range m).flatMap fun j => enB (z (i + j))
 | 0, i, b => by simp [enR]
 | m + 1, i, b => by
  rw [enR, enR_app z m, List.range_succ_eq_map, List.flatMap_cons, List.append_assoc, List.flatMap_map]
  congr 3
  funext j
  rw [Nat.add_assoc, Nat.add_comm 1 j]
theorem range_flat {α : Type} (f : Int → List α) : ∀ (zs : List Int), ((List.range zs.length).flatMap fun j => f (lw zs (0 + j))) = zs.flatMap f
 | [] => rfl
 | v :: zs => by
  rw [List.length_cons, List.range_succ_eq_map, List.flatMap_cons, List.flatMap_map, List.flatMap_cons, ← range_flat f zs]
  congr 2
theorem fold_push : ∀ (l : List Int) (r : ByteArray), (l.foldl (fun r n => r.push (UInt8.ofNat n.toNat)) r).data.toList = r.data.toList ++ l.map fun n => UInt8.ofNat n.toNat
 | [], r => by simp
 | n :: l, r => by
  rw [List.foldl_cons, fold_push l]
  simp [ByteArray.push]
theorem encF_bytes {zs : List Int} (h : ∀ v ∈ zs, Scal v) : (encF (lw zs) zs.length).data.toList = byL zs := by
 unfold encF bytesS
 rw [fold_push]
 have e : (List.range (enR (lw zs) zs.length 0 []).length).map (lw (enR (lw zs) zs.length 0 [])) = enR (lw zs) zs.length 0 [] := by
  apply List.ext_getElem?
  intro i
  rw [List.getElem?_map]
  by_cases hi : i < (enR (lw zs) zs.length 0 []).length
  ·rw [List.getElem?_range hi, Option.map_some]
   simp [lw, List.getElem?_eq_getElem hi]
  ·rw [List.getElem?_eq_none (by rw [List.length_range]; omega), List.getElem?_eq_none (by omega)]; rfl
 rw [e, enR_app, List.nil_append, range_flat, show ByteArray.empty.data.toList = [] from rfl, List.nil_append, List.map_flatMap]
 unfold byL
 clear e
 induction zs with
 | nil => rfl
 | cons v zs ih =>
  rw [List.flatMap_cons, List.flatMap_cons, ih fun u hu => h u (by simp [hu])]
  obtain ⟨h1, h2⟩ := scal_nat (h v (by simp))
  have e := enB_nat h1
  rw [h2] at e
  rw [e, List.map_map]
  rfl
/-! ### What the reference's decoder answers -/
/-- A sequence that has begun. -/
def Pre (k : List Int) : Prop :=
 k = [] ∨ (∃ p, k = [p] ∧ 194 ≤ p ∧ p ≤ 244) ∨ (∃ p q, k = [p, q] ∧ 224 ≤ p ∧ p ≤ 244 ∧ 128 ≤ q ∧ q ≤ 191 ∧ (p = 237 → q ≤ 159) ∧ (p = 244 → q ≤ 143) ∧ (p = 240 → 144 ≤ q)) ∨
  ∃ p q r, k = [p, q, r] ∧ 240 ≤ p ∧ p ≤ 244 ∧ 128 ≤ q ∧ q ≤ 191 ∧ (p = 244 → q ≤ 143) ∧ (p = 240 → 144 ≤ q) ∧ 128 ≤ r ∧ r ≤ 191
theorem szF_of (p : Int) : (194 ≤ p ∧ p ≤ 223 ∧ szF p = 2) ∨ (224 ≤ p ∧ p ≤ 239 ∧ szF p = 3) ∨ (240 ≤ p ∧ p ≤ 244 ∧ szF p = 4) ∨ ((p < 194 ∨ 244 < p) ∧ szF p = 0) := by
 unfold szF
 by_cases a1 : p ≥ 194
 ·by_cases a2 : p ≤ 223
  ·left; simp [a1, a2]
  ·by_cases a3 : p ≤ 239
   ·right; left
    have : p ≥ 224 := by omega
    simp [a1, a2, a3, this]
   ·by_cases a4 : p ≤ 244
    ·right; right; left
     have b1 : p ≥ 224 := by omega
     have b2 : p ≥ 240 := by omega
     simp [a1, a2, a3, a4, b1, b2]
    ·right; right; right
     have b1 : p ≥ 224 := by omega
     have b2 : p ≥ 240 := by omega
     simp [a1, a2, a3, a4, b1, b2]
     omega
 ·right; right; right
  have b1 : ¬ p ≥ 224 := by omega
  have b2 : ¬ p ≥ 240 := by omega
  simp [a1, b1, b2]
  omega
theorem byteAt_b (s : ByteArray) (i : Nat) : 0 ≤ byteAt s i ∧ byteAt s i < 256 := by
 unfold byteAt
 have := (s.data.toList.getD i 0).toNat_lt
 omega
theorem lo1 (p : Int) : 128 ≤ loF p 1 ∧ (p = 240 → 144 ≤ loF p 1) := by
 unfold loF
 by_cases h1 : p = 224
 ·subst h1; simp
 by_cases h2 : p = 237
 ·subst h2; simp
 by_cases h3 : p = 240
 ·subst h3; simp
 have e1 : (p == 224) = false := beq_eq_false_iff_ne.2 h1
 have e2 : (p == 237) = false := beq_eq_false_iff_ne.2 h2
 have e3 : (p == 240) = false := beq_eq_false_iff_ne.2 h3
 rw [e1, e2, e3]
 exact ⟨by decide, fun e => absurd e h3⟩
theorem hi1 (p : Int) : hiF p 1 ≤ 191 ∧ (p = 237 → hiF p 1 ≤ 159) ∧ (p = 244 → hiF p 1 ≤ 143) := by
 unfold hiF
 by_cases h1 : p = 224
 ·subst h1; simp
 by_cases h2 : p = 237
 ·subst h2; simp
 by_cases h3 : p = 240
 ·subst h3; simp
 by_cases h4 : p = 244
 ·subst h4; simp
 have e1 : (p == 224) = false := beq_eq_false_iff_ne.2 h1
 have e2 : (p == 237) = false := beq_eq_false_iff_ne.2 h2
 have e3 : (p == 240) = false := beq_eq_false_iff_ne.2 h3
 have e4 : (p == 244) = false := beq_eq_false_iff_ne.2 h4
 rw [e1, e2, e3, e4]
 exact ⟨by decide, fun e => absurd e h2, fun e => absurd e h4⟩
theorem lo2 (p : Int) {n : Nat} (h : n ≠ 1) : loF p n = 128 := by
 unfold loF
 have : ((n : Int) == 1) = false := by rw [beq_eq_false_iff_ne]; omega
 rw [this]; rfl
theorem hi2 (p : Int) {n : Nat} (h : n ≠ 1) : hiF p n = 191 := by
 unfold hiF
 have : ((n : Int) == 1) = false := by rw [beq_eq_false_iff_ne]; omega
 rw [this]; rfl
theorem stepV_eq {a b : Int} (h1 : 0 ≤ a) (h2 : a < 30000) (h3 : 128 ≤ b) (h4 : b < 256) : stepV a b = a * 64 + (b - 128) := by
 unfold stepV
 rw [w32 (x := a * 64) (by omega) (by omega), w32 (x := b) (by omega) (by omega), w32 (x := a * 64 + b) (by omega) (by omega), w32 (by omega) (by omega)]
 omega
theorem val2_eq {p b : Int} (h1 : 194 ≤ p) (h2 : p ≤ 223) (h3 : 128 ≤ b) (h4 : b ≤ 191) : valF (lw [p, b]) 2 = (p - 192) * 64 + (b - 128) := by
 show stepV (valA (lw [p, b]) 2) b = _
 have e : valA (lw [p, b]) 2 = IntKind.i32.wrap (IntKind.i32.wrap p - 192) := rfl
 rw [e, w32 (x := p) (by omega) (by omega), w32 (x := p - 192) (by omega) (by omega), stepV_eq (by omega) (by omega) h3 (by omega)]
theorem val3_eq {p q b : Int} (h1 : 224 ≤ p) (h2 : p ≤ 239) (h3 : 128 ≤ q) (h4 : q ≤ 191) (h5 : 128 ≤ b) (h6 : b ≤ 191) : valF (lw [p, q, b]) 3 = ((p - 224) * 64 + (q - 128)) * 64 + (b - 128) := by
 show stepV (stepV (valA (lw [p, q, b]) 3) q) b = _
 have e : valA (lw [p, q, b]) 3 = IntKind.i32.wrap (IntKind.i32.wrap p - 224) := rfl
 rw [e, w32 (x := p) (by omega) (by omega), w32 (x := p - 224) (by omega) (by omega), stepV_eq (a := p - 224) (by omega) (by omega) h3 (by omega), stepV_eq (by omega) (by omega) h5 (by omega)]
theorem val4_eq {p q r b : Int} (h1 : 240 ≤ p) (h2 : p ≤ 244) (h3 : 128 ≤ q) (h4 : q ≤ 191) (h5 : 128 ≤ r) (h6 : r ≤ 191) (h7 : 128 ≤ b) (h8 : b ≤ 191) :
  valF (lw [p, q, r, b]) 4 = (((p - 240) * 64 + (q - 128)) * 64 + (r - 128)) * 64 + (b - 128) := by
 show stepV (stepV (stepV (valA (lw [p, q, r, b]) 4) q) r) b = _
 have e : valA (lw [p, q, r, b]) 4 = IntKind.i32.wrap (IntKind.i32.wrap p - 240) := rfl
 rw [e, w32 (x := p) (by omega) (by omega), w32 (x := p - 240) (by omega) (by omega), stepV_eq (a := p - 240) (by omega) (by omega) h3 (by omega), stepV_eq (a := (p - 240) * 64 + (q - 128)) (by omega) (by omega) h5 (by omega), stepV_eq (by omega) (by omega) h7 (by omega)]
theorem dstep_scal {s : ByteArray} {i : Nat} {o k : List Int} (ho : ∀ v ∈ o, Scal v) (hk : Pre k) : (∀ v ∈ (dstep s i o k).2.1, Scal v) ∧ Pre (dstep s i o k).2.2 := by
 have app : ∀ {x : Int}, Scal x → ∀ v ∈ o ++ [x], Scal v := fun hx v hv => by
  rw [List.mem_append, List.mem_singleton] at hv
  rcases hv with hv | rfl
  ·exact ho v hv
  ·exact hx
 have bad : ∀ v ∈ o ++ [65533], Scal v := app (.inr ⟨by decide, by decide⟩)
 obtain ⟨b0, b1⟩ := byteAt_b s i
 generalize hb : byteAt s i = b at b0 b1
 unfold dstep
 rw [hb]
 rcases hk with rfl | ⟨p, rfl, p1, p2⟩ | ⟨p, q, rfl, p1, p2, q1, q2, q3, q4, q5⟩ | ⟨p, q, r, rfl, p1, p2, q1, q2, q4, q5, r1, r2⟩
 ·rw [if_pos rfl]
  by_cases h1 : b < 128
  ·rw [if_pos h1, w32 b0 (by omega)]
   exact ⟨app (.inl ⟨b0, by omega⟩), .inl rfl⟩
  rw [if_neg h1]
  by_cases h2 : szF b > 0
  ·rw [if_pos h2]
   refine ⟨ho, .inr (.inl ⟨b, rfl, ?_⟩)⟩
   rcases szF_of b with h | h | h | h <;> omega
  ·rw [if_neg h2]
   exact ⟨bad, .inl rfl⟩
 ·rw [if_neg (by simp)]
  simp only [List.length_cons, List.length_nil, Nat.zero_add, show lw [p] 0 = p from rfl]
  obtain ⟨e1, e5⟩ := lo1 p
  obtain ⟨e2, e3, e4⟩ := hi1 p
  by_cases h1 : b < loF p 1
  ·rw [if_pos h1]; exact ⟨bad, .inl rfl⟩
  rw [if_neg h1]
  by_cases h2 : b > hiF p 1
  ·rw [if_pos h2]; exact ⟨bad, .inl rfl⟩
  rw [if_neg h2]
  by_cases h3 : ((1 + 1 : Nat) : Int) = szF p
  ·rw [if_pos h3]
   refine ⟨app ?_, .inl rfl⟩
   show Scal (valF (lw [p, b]) 2)
   rw [val2_eq (by omega) (by rcases szF_of p with h | h | h | h <;> omega) (by omega) (by omega)]
   rcases szF_of p with h | h | h | h
   ·exact .inl ⟨by omega, by omega⟩
   all_goals omega
  ·rw [if_neg h3]
   refine ⟨ho, .inr (.inr (.inl ⟨p, b, rfl, ?_, p2, by omega, by omega, fun e => by have := e3 e; omega, fun e => by have := e4 e; omega, fun e => by have := e5 e; omega⟩))⟩
   rcases szF_of p with h | h | h | h <;> omega
 ·rw [if_neg (by simp)]
  simp only [List.length_cons, List.length_nil, Nat.zero_add, show lw [p, q] 0 = p from rfl]
  rw [lo2 p (n := 1 + 1) (by decide), hi2 p (n := 1 + 1) (by decide)]
  by_cases h1 : b < 128
  ·rw [if_pos h1]; exact ⟨bad, .inl rfl⟩
  rw [if_neg h1]
  by_cases h2 : b > 191
  ·rw [if_pos h2]; exact ⟨bad, .inl rfl⟩
  rw [if_neg h2]
  by_cases h3 : ((1 + 1 + 1 : Nat) : Int) = szF p
  ·rw [if_pos h3]
   refine ⟨app ?_, .inl rfl⟩
   show Scal (valF (lw [p, q, b]) 3)
   have hp : p ≤ 239 := by rcases szF_of p with h | h | h | h <;> omega
   rw [val3_eq p1 hp q1 q2 (by omega) (by omega)]
   by_cases hs : p ≤ 237
   ·refine .inl ⟨by omega, ?_⟩
    by_cases e : p = 237
    ·have := q3 e; omega
    ·omega
   ·exact .inr ⟨by omega, by omega⟩
  ·rw [if_neg h3]
   refine ⟨ho, .inr (.inr (.inr ⟨p, q, b, rfl, ?_, p2, q1, q2, q4, q5, by omega, by omega⟩))⟩
   rcases szF_of p with h | h | h | h <;> omega
 ·rw [if_neg (by simp)]
  simp only [List.length_cons, List.length_nil, Nat.zero_add, show lw [p, q, r] 0 = p from rfl]
  rw [lo2 p (n := 1 + 1 + 1) (by decide), hi2 p (n := 1 + 1 + 1) (by decide)]
  by_cases h1 : b < 128
  ·rw [if_pos h1]; exact ⟨bad, .inl rfl⟩
  rw [if_neg h1]
  by_cases h2 : b > 191
  ·rw [if_pos h2]; exact ⟨bad, .inl rfl⟩
  rw [if_neg h2]
  have hsz : ((1 + 1 + 1 + 1 : Nat) : Int) = szF p := by rcases szF_of p with h | h | h | h <;> omega
  rw [if_pos hsz]
  refine ⟨app ?_, .inl rfl⟩
  show Scal (valF (lw [p, q, r, b]) 4)
  rw [val4_eq p1 p2 q1 q2 r1 r2 (by omega) (by omega)]
  have h240 : 240 < p ∨ 144 ≤ q := by
   by_cases e : p = 240
   ·exact .inr (q5 e)
   ·exact .inl (by omega)
  refine .inr ⟨by omega, ?_⟩
  by_cases e : p = 244
  ·have := q4 e; omega
  ·omega
theorem decR_scal (s : ByteArray) : ∀ (m i : Nat) (o k : List Int), (∀ v ∈ o, Scal v) → Pre k → ∀ v ∈ (decR s m i o k).1, Scal v
 | 0, i, o, k, ho, _ => ho
 | m + 1, i, o, k, ho, hk => by
  rw [decR]
  split
  ·have := dstep_scal (s := s) (i := i) ho hk
   exact decR_scal s m _ _ _ this.1 this.2
  ·exact ho
theorem decF_scal (s : ByteArray) : ∀ v ∈ (decF s).1, Scal v := decR_scal s _ _ _ _ (fun v hv => (by simp at hv)) (.inl rfl)
/-- A well-formed string: its bytes. -/
theorem valid_bytes {s : ByteArray} (h : validF s = true) : s.data.toList = byL (decF s).1 := by
 unfold validF at h
 cases hb : ByteArray.toList (decF s).2 == ByteArray.toList ⟨#[]⟩ with
 | false => rw [hb] at h; cases h
 | true =>
  rw [hb, cond_true, beq_iff_eq, Lib.toList_data, Lib.toList_data, encF_bytes (decF_scal s)] at h
  exact h.symm
theorem valid_vd {s : ByteArray} (h : validF s = true) : vdF s = true := by
 unfold vdF
 rw [valid_bytes h]
 exact valid_byL (decF_scal s)
theorem valid_rune {s : ByteArray} (h : validF s = true) : runeN s = (decF s).1.length ∧ ∀ i, i < (decF s).1.length → runeAt s i = lw (decF s).1 i := rune_eq (decF_scal s) (valid_bytes h)
end Go.Proofs.YtfdldnomelnbgaaGreatDoor

namespace Go.Proofs.YtfdldnomelnbgaaGreatDoor
open Go Go.AE Go.DE Go.RowKit

theorem marks_same {z y : Nat → Int} : ∀ (m i : Nat), (∀ j, i ≤ j → j < i + m → y j = z (1 + j)) → mrkR (findF mkL) y m i = marksF z m (1 + i)
 | 0, _, _ => rfl
 | m + 1, i, h => by
  rw [mrkR, marksF, mk_same, h i (Nat.le_refl _) (by omega), marks_same m (i + 1) fun j h1 h2 => h j (by omega) (by omega), show 1 + (i + 1) = 1 + i + 1 by omega]
theorem cond_n {b : Bool} {x y v : Int} (h : (bif b then x else y) = v) (hx : x ≠ v) : b = false ∧ y = v := by
 cases b with
 | true => exact absurd h hx
 | false => exact ⟨rfl, h⟩
theorem cond_y {b : Bool} {x y v : Int} (h : (bif b then x else y) = v) (hy : y ≠ v) : b = true ∧ x = v := by
 cases b with
 | true => exact ⟨rfl, h⟩
 | false => exact absurd h hy
theorem check3_zero {s : ByteArray} (h : check3 s = 0) : ccF s = 0 ∧ cdF s = width3 s := by
 have h0 := h
 unfold check3 at h
 obtain ⟨h1, h⟩ := cond_n h (by decide)
 obtain ⟨h2, h⟩ := cond_y h (by decide)
 obtain ⟨h3, h⟩ := cond_n h (by decide)
 obtain ⟨h4, h⟩ := cond_n h (by decide)
 obtain ⟨h5, h⟩ := cond_y h (by decide)
 obtain ⟨h6, _⟩ := cond_n h (by decide)
 have hp := check3_ne h0
 obtain ⟨r1, r2⟩ := valid_rune h2
 have hc : ccF s = 0 := by
  have e4 : decide (cwF (runeAt s 0) < 1) = false := by rw [cw_same, r2 0 hp]; exact h4
  have e5 : mrkF (fun i => runeAt s (1 + i)) (runeN s - 1) = true := by
   unfold mrkF
   rw [marks_same (z := lw (decF s).1) _ 0 fun j _ hj => r2 (1 + j) (by omega), r1]
   exact h5
  have e6 : decide ((runeN s : Int) - 1 > 3) = false := by
   have h6 := of_decide_eq_false h6
   rw [r1]
   exact decide_eq_false (by omega)
  unfold ccF
  rw [h1, valid_vd h2, e4, e5, e6]
  rfl
 refine ⟨hc, ?_⟩
 unfold cdF width3
 rw [hc, if_pos h0, cw_same, r2 0 hp]
 rfl
theorem c7_zero {r : Row} : ∀ (m i : Nat), c7 r m i = 0 → p7 ccF cdF r m i = 0
 | 0, _, _ => rfl
 | m + 1, i, h => by
  rw [c7] at h
  rw [p7]
  by_cases hi : i < r.n
  ·rw [if_pos hi] at h ⊢
   unfold c7s at h
   unfold p7s
   obtain ⟨h1, h⟩ := cond_n h (by decide)
   obtain ⟨h2, h⟩ := cond_n h (by decide)
   obtain ⟨h3, h⟩ := cond_n h (by decide)
   obtain ⟨e1, e2⟩ := check3_zero (s := r.tx i) (by simpa using h2)
   rw [h1, e1, e2, h3]
   cases h4 : r.wd i == 1 with
   | true =>
    rw [h4, cond_true] at h
    exact c7_zero m _ h
   | false =>
    rw [h4, cond_false] at h
    obtain ⟨h5, h⟩ := cond_n h (by decide)
    obtain ⟨h6, h⟩ := cond_y h (by decide)
    rw [h5, h6]
    exact c7_zero m _ h
  ·rw [if_neg hi]
theorem check7_zero {r : Row} (h : check7 r = 0) : rowF r = 0 ∧ 1 ≤ r.n ∧ r.n ≤ 132 := by
 unfold check7 at h
 obtain ⟨h1, h⟩ := cond_n h (by decide)
 obtain ⟨h2, h⟩ := cond_n h (by decide)
 refine ⟨?_, by have := of_decide_eq_false h1; omega, by have := of_decide_eq_false h2; omega⟩
 unfold rowF
 rw [h1, h2]
 exact c7_zero _ _ h
/-- The first cell of a proper row has a width. -/
theorem rowF_first {r : Row} (h : rowF r = 0) : 1 ≤ r.n ∧ r.n ≤ 132 ∧ r.wd 0 ≠ 0 := by
 unfold rowF at h
 obtain ⟨h1, h⟩ := cond_n h (by decide)
 obtain ⟨h2, h⟩ := cond_n h (by decide)
 have h1 := of_decide_eq_false h1
 have h2 := of_decide_eq_false h2
 refine ⟨by omega, by omega, fun e => ?_⟩
 obtain ⟨m, hm⟩ : ∃ m, r.n = m + 1 := ⟨r.n - 1, by omega⟩
 rw [hm, p7, if_pos (by omega)] at h
 unfold p7s at h
 rw [e] at h
 cases h
theorem g8_zero {R : Nat → Row} {w : Int} : ∀ (m i : Nat), g8 R w m i = 0 → ∀ j, i ≤ j → j < i + m → ((R j).n : Int) = w ∧ check7 (R j) = 0
 | 0, i, _, j, h1, h2 => by omega
 | m + 1, i, h, j, h1, h2 => by
  rw [g8] at h
  unfold g8s at h
  obtain ⟨q1, h⟩ := cond_n h (by decide)
  cases q2 : check7 (R i) != 0 with
  | true =>
   rw [q2, cond_true] at h
   rw [h] at q2
   cases q2
  | false =>
   rw [q2, cond_false] at h
   by_cases e : i = j
   ·subst e
    exact ⟨by simpa using q1, by simpa using q2⟩
   ·exact g8_zero m (i + 1) h j (by omega) (by omega)
theorem check8_zero {w h : Int} {R : Nat → Row} {n : Nat} (hz : check8 w h R n = 0) : 1 ≤ w ∧ w ≤ 132 ∧ 1 ≤ h ∧ h ≤ 60 ∧ (n : Int) = h ∧ ∀ j, j < n → ((R j).n : Int) = w ∧ check7 (R j) = 0 := by
 unfold check8 at hz
 obtain ⟨h1, hz⟩ := cond_y hz (by decide)
 obtain ⟨h2, hz⟩ := cond_n hz (by decide)
 simp only [Bool.and_eq_true, decide_eq_true_eq] at h1
 refine ⟨by omega, by omega, by omega, by omega, by simpa using h2, fun j hj => g8_zero n 0 hz j (Nat.zero_le _) (by omega)⟩
theorem backF_all {R : Nat → Row} : ∀ (m i : Nat), backF R m i = true → ∀ j, i ≤ j → j < i + m → check7 (R j) = 0
 | 0, i, _, j, h1, h2 => by omega
 | m + 1, i, h, j, h1, h2 => by
  rw [backF] at h
  cases q : check7 (R i) != 0 with
  | true => rw [q] at h; cases h
  | false =>
   rw [q, cond_false] at h
   by_cases e : i = j
   ·subst e; simpa using q
   ·exact backF_all m (i + 1) h j (by omega) (by omega)
theorem cond_ff {b c : Bool} : ((bif b then false else c) = true) ↔ b = false ∧ c = true := by cases b <;> simp
/-- What is so of a proper terminal. -/
structure Prp (x : Tm) : Prop where
 g : check8 (x.I 0) (x.I 1) x.gR x.gn = 0
 o : check8 (x.I 3) (x.I 4) x.oR x.on = 0
 w : x.I 0 = x.I 3
 h : x.I 1 = x.I 4
 c : insF (x.I 6) (x.I 7) (x.B 8) (x.I 0) (x.I 1) = true
 d : insF (x.I 9) (x.I 10) (x.B 11) (x.I 0) (x.I 1) = true
 a : rgtF (x.I 19) (x.I 20) (x.I 21) ≠ 0
 a2 : rgtF (x.I 12) (x.I 13) (x.I 14) ≠ 0
 s : setF (x.I 30) (x.I 31) (x.I 32) = true
 s2 : setF (x.I 16) (x.I 17) (x.I 18) = true
 t0 : 0 ≤ x.I 33
 t1 : x.I 33 < x.I 34
 t2 : x.I 34 ≤ x.I 1
 tn : (x.tn : Int) = x.I 0
 bn : (x.bn : Int) ≤ 500
 v : validF (x.S 40) = true
 b : ∀ j, j < x.bn → check7 (x.bR j) = 0
theorem proper_all {x : Tm} (h : properF x = true) : Prp x := by
 unfold properF at h
 simp only [cond_ff] at h
 obtain ⟨h1, h2, h3, h4, h5, h6, h7, h8, h9, h10, h11, h12, h13, h14, h15, h16, h17⟩ := h
 have n1 : ∀ {p : Prop} [Decidable p], decide p = false → ¬ p := fun h => of_decide_eq_false h
 exact ⟨by simpa using h1, by simpa using h2, by simpa using h3, by simpa using h4, by simpa using h5, by simpa using h6, by simpa using h7, by simpa using h8, by simpa using h9, by simpa using h10,
  by have := n1 h11; omega, by have := n1 h12; omega, by have := n1 h13; omega, by simpa using h14, by have := n1 h15; omega, by simpa using h16, fun j hj => backF_all _ _ h17 j (Nat.zero_le _) (by omega)⟩
theorem fine_prp {x : Tm} (h : fineF x = true) : Prp x := by
 unfold fineF at h
 rw [cond_ff] at h
 refine proper_all ?_
 cases hp : properF x with
 | true => rfl
 | false => rw [hp] at h; cases h.2
theorem Prp.rows {x : Tm} (p : Prp x) {j : Nat} (hj : j < x.gn) : ((x.gR j).n : Int) = x.I 0 ∧ rowF (x.gR j) = 0 := by
 obtain ⟨_, _, _, _, _, h⟩ := check8_zero p.g
 exact ⟨(h j hj).1, (check7_zero (h j hj).2).1⟩
/-- A proper terminal has rows of cells. -/
theorem Prp.pos {x : Tm} (p : Prp x) (ok : x.ok) : x.pos := by
 obtain ⟨a1, a2, a3, a4, a5, a6⟩ := check8_zero p.g
 obtain ⟨b1, b2, b3, b4, b5, b6⟩ := check8_zero p.o
 obtain ⟨o1, o2, o3, o4, o5, o6⟩ := ok
 have tn := p.tn
 refine ⟨⟨o1.1, fun i hi => ⟨o1.2 i hi, ?_⟩⟩, ⟨o2.1, fun i hi => ⟨o2.2 i hi, ?_⟩⟩, ⟨o3.1, fun i hi => ⟨o3.2 i hi, ?_⟩⟩, o4, by omega⟩
 ·have := (check7_zero (a6 i hi).2).2.1; omega
 ·have := (check7_zero (b6 i hi).2).2.1; omega
 ·have := (check7_zero (p.b i hi)).2.1; omega
/-- A proper terminal can be shown if the renditions of its cells are proper. -/
theorem Prp.show {x : Tm} (p : Prp x) : showF x = allF (fun i => !hasBad (x.gR i)) x.gn 0 := by
 obtain ⟨a1, a2, a3, a4, a5, a6⟩ := check8_zero p.g
 have c := p.c
 unfold insF at c
 simp only [Bool.and_eq_true, decide_eq_true_eq] at c
 obtain ⟨⟨⟨⟨c1, c2⟩, c3⟩, c4⟩, _⟩ := c
 unfold showF
 have e4 : (!decide (x.I 1 ≤ 60)) = false := by rw [decide_eq_true a4]; rfl
 have e5 : ((x.gn : Int) != x.I 1) = false := by rw [a5]; simp
 have e6 : decide (x.I 6 < 0) = false := decide_eq_false (by omega)
 have e7 : decide (x.I 6 ≥ x.I 1) = false := decide_eq_false (by omega)
 have e8 : decide (x.I 7 < 0) = false := decide_eq_false (by omega)
 have e9 : decide (x.I 7 ≥ x.I 0) = false := decide_eq_false (by omega)
 rw [decide_eq_true (show x.I 0 ≥ 1 from a1), decide_eq_true a2, decide_eq_true (show x.I 1 ≥ 1 from a3), e4, e5, e6, e7, e8, e9]
 show allF (fun i => rowSo (x.I 0) (x.gR i)) x.gn 0 = _
 have e : ∀ j, j < x.gn → rowSo (x.I 0) (x.gR j) = !hasBad (x.gR j) := fun j hj => by
  obtain ⟨q1, q2⟩ := p.rows hj
  unfold rowSo
  rw [q1, q2]
  simp only [bne_self_eq_false, cond_false]
  cases hasBad (x.gR j) <;> rfl
 rw [Bool.eq_iff_iff, allF_iff, allF_iff]
 exact ⟨fun h j h1 h2 => by rw [← e j (by omega)]; exact h j h1 h2, fun h j h1 h2 => by rw [e j (by omega)]; exact h j h1 h2⟩
/-! ### Views -/
/-- The glyphs of a cell. -/
def gl1 (r : Row) (i : Nat) : List (ByteArray × Bool × Int) :=
 bif !shown (r.fl i) then [(starT, false, 3)] else bif r.wd i == 0 then [] else [(r.tx i, r.wd i == 2, styF (r.fl i))]
def gls (r : Row) : Nat → Nat → List (ByteArray × Bool × Int)
 | 0, _ => []
 | m + 1, i => gl1 r i ++ gls r m (i + 1)
def Gl.ofL (l : List (ByteArray × Bool × Int)) : Gl := ⟨l.length, fun i => (l.getD i (⟨#[]⟩, false, 0)).1, fun i => (l.getD i (⟨#[]⟩, false, 0)).2.1, fun i => (l.getD i (⟨#[]⟩, false, 0)).2.2⟩
/-- The glyphs of a row, without the blanks behind them. -/
def glR (r : Row) : Gl := Gl.ofL (gls r r.n 0)
def viR (r : Row) : Gl := { glR r with n := trimL (glR r) }
theorem gl1_len (r : Row) (i : Nat) : (gl1 r i).length ≤ 1 := by
 unfold gl1
 cases (!shown (r.fl i)) <;> cases (r.wd i == 0) <;> simp
theorem gls_len (r : Row) : ∀ (m i : Nat), (gls r m i).length ≤ m
 | 0, _ => Nat.le_refl _
 | m + 1, i => by
  have := gl1_len r i
  have := gls_len r m (i + 1)
  rw [gls, List.length_append]
  omega
theorem gls_pos {r : Row} (h : rowF r = 0) : 0 < (gls r r.n 0).length := by
 obtain ⟨h1, h2, h3⟩ := rowF_first h
 obtain ⟨m, hm⟩ : ∃ m, r.n = m + 1 := ⟨r.n - 1, by omega⟩
 rw [hm, gls, List.length_append]
 have : (gl1 r 0).length = 1 := by
  unfold gl1
  have e : (r.wd 0 == 0) = false := by rw [beq_eq_false_iff_ne]; exact h3
  rw [e]
  cases (!shown (r.fl 0)) <;> rfl
 omega
theorem gl1_key {r s : Row} {i : Nat} (hi : i < r.n) (hj : i < s.n) (h : cellKey r.msk i = cellKey s.msk i) : gl1 r i = gl1 s i := by
 unfold cellKey at h
 rw [msk_tx hi, msk_tx hj] at h
 simp only [Prod.mk.injEq] at h
 obtain ⟨h1, h2, h3, h4, h5⟩ := h
 have h2 : r.wd i = s.wd i := h2
 have h5 : r.fl i = s.fl i := h5
 unfold mkT at h1
 unfold gl1
 rw [h2, h5] at h1 ⊢
 cases hs : shown (s.fl i) with
 | false => rfl
 | true =>
  rw [hs, cond_true, cond_true] at h1
  rw [h1]
theorem gls_congr {r s : Row} : ∀ (m i : Nat), (∀ j, i ≤ j → j < i + m → gl1 r j = gl1 s j) → gls r m i = gls s m i
 | 0, _, _ => rfl
 | m + 1, i, h => by rw [gls, gls, h i (Nat.le_refl _) (by omega), gls_congr m (i + 1) fun j h1 h2 => h j (by omega) (by omega)]
theorem glR_key {r s : Row} (h : rowKey r.msk = rowKey s.msk) : glR r = glR s := by
 unfold rowKey at h
 obtain ⟨hn, h⟩ := map_range_eq.1 h
 have hn : r.n = s.n := hn
 unfold glR
 rw [hn, gls_congr s.n 0 fun j _ hj => gl1_key (by omega) (by omega) (h j (by show j < r.n; omega))]
theorem viR_key {r s : Row} (h : rowKey r.msk = rowKey s.msk) : viR r = viR s := by unfold viR; rw [glR_key h]
theorem idxF_congr {p q : Nat → Bool} : ∀ (m i : Nat), (∀ j, i ≤ j → j < i + m → p j = q j) → idxF p m i = idxF q m i
 | 0, _, _ => rfl
 | m + 1, i, h => by rw [idxF, idxF, h i (Nat.le_refl _) (by omega), idxF_congr m (i + 1) fun j h1 h2 => h j (by omega) (by omega)]
theorem bad_key {r s : Row} (h : rowKey r.msk = rowKey s.msk) : hasBad r = hasBad s := by
 unfold rowKey at h
 obtain ⟨hn, h⟩ := map_range_eq.1 h
 have hn : r.n = s.n := hn
 unfold hasBad badAt
 rw [hn, idxF_congr s.n 0 fun j _ hj => ?_]
 have := h j (by show j < r.n; omega)
 unfold cellKey at this
 simp only [Prod.mk.injEq] at this
 obtain ⟨_, _, h3, h4, h5⟩ := this
 have h3 : r.fo j = s.fo j := h3
 have h4 : r.ba j = s.ba j := h4
 have h5 : r.fl j = s.fl j := h5
 unfold atB
 rw [h3, h4, h5]
theorem gly_refl (r : Gl) : glyEq r r = true := by
 unfold glyEq
 rw [bne_self_eq_false, cond_false, allF_iff]
 intro j _ _
 unfold glyB
 rw [ba_eq.2 rfl, beq_self_eq_true, beq_self_eq_true]
 rfl
theorem gls_refl {R S : Nat → Gl} {n m : Nat} (h : n = m) (e : ∀ i, i < n → R i = S i) : glsEq R n S m = true := by
 subst h
 unfold glsEq
 rw [bne_self_eq_false, cond_false, allF_iff]
 intro j _ hj
 rw [e j (by omega)]
 exact gly_refl _
/-- What a view is made of. -/
def viN (x : Tm) : Nat := bif showF x then x.gn else 0
def viE (x y : Tm) : Bool :=
 bif (bif showF x then x.I 0 else 0) == (bif showF y then y.I 0 else 0) then (bif (bif showF x then x.I 1 else 0) == (bif showF y then y.I 1 else 0) then
  (bif (bif showF x then x.I 6 else 0) == (bif showF y then y.I 6 else 0) then (bif (bif showF x then x.I 7 else 0) == (bif showF y then y.I 7 else 0) then
   (bif (showF x && x.B 27) == (showF y && y.B 27) then glsEq (fun i => viR (x.gR i)) (viN x) (fun i => viR (y.gR i)) (viN y) else false) else false) else false) else false) else false
theorem key_rows {x y : Tm} (h : x.msk.key = y.msk.key) : x.gn = y.gn ∧ (∀ i, i < x.gn → rowKey (x.gR i).msk = rowKey (y.gR i).msk) ∧ x.I 0 = y.I 0 ∧ x.I 1 = y.I 1 ∧ x.I 6 = y.I 6 ∧ x.I 7 = y.I 7 ∧ x.B 27 = y.B 27 := by
 unfold Tm.key at h
 simp only [Key.mk.injEq, List.cons.injEq, and_true] at h
 obtain ⟨h1, h2, h3, h4, h5, h6, h7, h8⟩ := h
 unfold rowsKey at h1
 obtain ⟨n1, n2⟩ := map_range_eq.1 h1
 exact ⟨n1, n2, h5.1, h5.2.1, h5.2.2.2.2.1, h5.2.2.2.2.2.1, h6.2.2.2.2.2.2.2.2.1⟩
end Go.Proofs.YtfdldnomelnbgaaGreatDoor
