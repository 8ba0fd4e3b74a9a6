/-
  The contract of keyinput's Check.
  Conditions: none beyond those of the contracts.

  keyinput.named answers a string for every name of a key: a flat function of its arguments.
  Conditions: none.
-/
import Derived.Test.YtabchbchopgnfaaGreatDoorJKin
import Derived.Test.YtabchbchopgnfaaGreatDoorDeGu
import Derived.Test.YtabchbchopgnfaaGreatDoorDeNd
import Derived.Test.YtabchbchopgnfaaGreatDoorDeExt
import Derived.KernelRfl
namespace Go.Proofs.YtabchbchopgnfaaGreatDoor
open Go Go.AE Go.DE Go.RowKit

theorem kc_true (D : Int → Int) (Z : Nat → ByteArray) (nm : ByteArray) (r : Int) (c a s : Bool) : bodyD Tryz.prog (env [(48, kcC D), (49, ctC), (50, nmC Z)] noLp 0) Tryz.f20 [.agg [sv nm, kv .i32 r, bv c, bv a, bv s]] [] (fun d _ => isD (iv (kcF D Z nm r c a s)) d) = some () := by
  refine (kc_tree D Z nm r c a s _).trans ?_
  repeat' (first | (refine isD_of ?_; unfold kcF; simp only [*, cond_true, cond_false]; done) | (refine isD_of ?_; exfalso; simp_all; done) | (refine isD_of ?_; unfold kcF; simp [*]; done) | refine cS (fun h => ?_) fun h => ?_)
/-- A key that is valid has no name, or one of the names. -/
theorem kc_name {D : Int → Int} {Z : Nat → ByteArray} {nm : ByteArray} {r : Int} {c a s : Bool} (h : kcF D Z nm r c a s = 0) : nm = ⟨#[]⟩ ∨ nm = ⟨#[84, 97, 98]⟩ ∨ nm = ⟨#[69, 110, 116, 101, 114]⟩ ∨ nm = ⟨#[69, 115, 99, 97, 112, 101]⟩ ∨ nm = ⟨#[66, 97, 99, 107, 115, 112, 97, 99, 101]⟩ ∨ ∃ i, i < 26 ∧ nm = Z i := by
  have of : ∀ {a b : ByteArray}, (ByteArray.toList a == ByteArray.toList b) = true → a = b := fun h => bytes_ext (by rw [← Lib.toList_data, ← Lib.toList_data]; exact beq_iff_eq.1 h)
  unfold kcF at h
  cases h0 : (ByteArray.toList nm == ByteArray.toList (⟨#[]⟩ : ByteArray)) with
  | true => exact .inl (of h0)
  | false =>
  rw [h0, cond_false] at h
  cases g0 : (ByteArray.toList nm == ByteArray.toList (⟨#[84, 97, 98]⟩ : ByteArray)) with
  | true => exact .inr (.inl (of g0))
  | false =>
  rw [g0, cond_false] at h
  cases g1 : (ByteArray.toList nm == ByteArray.toList (⟨#[69, 110, 116, 101, 114]⟩ : ByteArray)) with
  | true => exact .inr (.inr (.inl (of g1)))
  | false =>
  rw [g1, cond_false] at h
  cases g2 : (ByteArray.toList nm == ByteArray.toList (⟨#[69, 115, 99, 97, 112, 101]⟩ : ByteArray)) with
  | true => exact .inr (.inr (.inr (.inl (of g2))))
  | false =>
  rw [g2, cond_false] at h
  cases g3 : (ByteArray.toList nm == ByteArray.toList (⟨#[66, 97, 99, 107, 115, 112, 97, 99, 101]⟩ : ByteArray)) with
  | true => exact .inr (.inr (.inr (.inr (.inl (of g3)))))
  | false =>
  rw [g3, cond_false] at h
  cases z0 : (ByteArray.toList nm == ByteArray.toList (Z 0)) with
  | true => exact .inr (.inr (.inr (.inr (.inr ⟨0, by decide, of z0⟩))))
  | false =>
  rw [z0, cond_false] at h
  cases z1 : (ByteArray.toList nm == ByteArray.toList (Z 1)) with
  | true => exact .inr (.inr (.inr (.inr (.inr ⟨1, by decide, of z1⟩))))
  | false =>
  rw [z1, cond_false] at h
  cases z2 : (ByteArray.toList nm == ByteArray.toList (Z 2)) with
  | true => exact .inr (.inr (.inr (.inr (.inr ⟨2, by decide, of z2⟩))))
  | false =>
  rw [z2, cond_false] at h
  cases z3 : (ByteArray.toList nm == ByteArray.toList (Z 3)) with
  | true => exact .inr (.inr (.inr (.inr (.inr ⟨3, by decide, of z3⟩))))
  | false =>
  rw [z3, cond_false] at h
  cases z4 : (ByteArray.toList nm == ByteArray.toList (Z 4)) with
  | true => exact .inr (.inr (.inr (.inr (.inr ⟨4, by decide, of z4⟩))))
  | false =>
  rw [z4, cond_false] at h
  cases z5 : (ByteArray.toList nm == ByteArray.toList (Z 5)) with
  | true => exact .inr (.inr (.inr (.inr (.inr ⟨5, by decide, of z5⟩))))
  | false =>
  rw [z5, cond_false] at h
  cases z6 : (ByteArray.toList nm == ByteArray.toList (Z 6)) with
  | true => exact .inr (.inr (.inr (.inr (.inr ⟨6, by decide, of z6⟩))))
  | false =>
  rw [z6, cond_false] at h
  cases z7 : (ByteArray.toList nm == ByteArray.toList (Z 7)) with
  | true => exact .inr (.inr (.inr (.inr (.inr ⟨7, by decide, of z7⟩))))
  | false =>
  rw [z7, cond_false] at h
  cases z8 : (ByteArray.toList nm == ByteArray.toList (Z 8)) with
  | true => exact .inr (.inr (.inr (.inr (.inr ⟨8, by decide, of z8⟩))))
  | false =>
  rw [z8, cond_false] at h
  cases z9 : (ByteArray.toList nm == ByteArray.toList (Z 9)) with
  | true => exact .inr (.inr (.inr (.inr (.inr ⟨9, by decide, of z9⟩))))
  | false =>
  rw [z9, cond_false] at h
  cases z10 : (ByteArray.toList nm == ByteArray.toList (Z 10)) with
  | true => exact .inr (.inr (.inr (.inr (.inr ⟨10, by decide, of z10⟩))))
  | false =>
  rw [z10, cond_false] at h
  cases z11 : (ByteArray.toList nm == ByteArray.toList (Z 11)) with
  | true => exact .inr (.inr (.inr (.inr (.inr ⟨11, by decide, of z11⟩))))
  | false =>
  rw [z11, cond_false] at h
  cases z12 : (ByteArray.toList nm == ByteArray.toList (Z 12)) with
  | true => exact .inr (.inr (.inr (.inr (.inr ⟨12, by decide, of z12⟩))))
  | false =>
  rw [z12, cond_false] at h
  cases z13 : (ByteArray.toList nm == ByteArray.toList (Z 13)) with
  | true => exact .inr (.inr (.inr (.inr (.inr ⟨13, by decide, of z13⟩))))
  | false =>
  rw [z13, cond_false] at h
  cases z14 : (ByteArray.toList nm == ByteArray.toList (Z 14)) with
  | true => exact .inr (.inr (.inr (.inr (.inr ⟨14, by decide, of z14⟩))))
  | false =>
  rw [z14, cond_false] at h
  cases z15 : (ByteArray.toList nm == ByteArray.toList (Z 15)) with
  | true => exact .inr (.inr (.inr (.inr (.inr ⟨15, by decide, of z15⟩))))
  | false =>
  rw [z15, cond_false] at h
  cases z16 : (ByteArray.toList nm == ByteArray.toList (Z 16)) with
  | true => exact .inr (.inr (.inr (.inr (.inr ⟨16, by decide, of z16⟩))))
  | false =>
  rw [z16, cond_false] at h
  cases z17 : (ByteArray.toList nm == ByteArray.toList (Z 17)) with
  | true => exact .inr (.inr (.inr (.inr (.inr ⟨17, by decide, of z17⟩))))
  | false =>
  rw [z17, cond_false] at h
  cases z18 : (ByteArray.toList nm == ByteArray.toList (Z 18)) with
  | true => exact .inr (.inr (.inr (.inr (.inr ⟨18, by decide, of z18⟩))))
  | false =>
  rw [z18, cond_false] at h
  cases z19 : (ByteArray.toList nm == ByteArray.toList (Z 19)) with
  | true => exact .inr (.inr (.inr (.inr (.inr ⟨19, by decide, of z19⟩))))
  | false =>
  rw [z19, cond_false] at h
  cases z20 : (ByteArray.toList nm == ByteArray.toList (Z 20)) with
  | true => exact .inr (.inr (.inr (.inr (.inr ⟨20, by decide, of z20⟩))))
  | false =>
  rw [z20, cond_false] at h
  cases z21 : (ByteArray.toList nm == ByteArray.toList (Z 21)) with
  | true => exact .inr (.inr (.inr (.inr (.inr ⟨21, by decide, of z21⟩))))
  | false =>
  rw [z21, cond_false] at h
  cases z22 : (ByteArray.toList nm == ByteArray.toList (Z 22)) with
  | true => exact .inr (.inr (.inr (.inr (.inr ⟨22, by decide, of z22⟩))))
  | false =>
  rw [z22, cond_false] at h
  cases z23 : (ByteArray.toList nm == ByteArray.toList (Z 23)) with
  | true => exact .inr (.inr (.inr (.inr (.inr ⟨23, by decide, of z23⟩))))
  | false =>
  rw [z23, cond_false] at h
  cases z24 : (ByteArray.toList nm == ByteArray.toList (Z 24)) with
  | true => exact .inr (.inr (.inr (.inr (.inr ⟨24, by decide, of z24⟩))))
  | false =>
  rw [z24, cond_false] at h
  cases z25 : (ByteArray.toList nm == ByteArray.toList (Z 25)) with
  | true => exact .inr (.inr (.inr (.inr (.inr ⟨25, by decide, of z25⟩))))
  | false =>
  rw [z25, cond_false] at h
  exact absurd h (by decide)
theorem kc_isName {D : Int → Int} {nm : ByteArray} {r : Int} {c a s : Bool} (h : kcF D nmZ nm r c a s = 0) : nm = ⟨#[]⟩ ∨ ∃ i, i < 26 ∧ nm = nmZ i := by
  rcases kc_name h with h | h | h | h | h | h
  · exact .inl h
  · exact .inr ⟨10, by decide, h⟩
  · exact .inr ⟨11, by decide, h⟩
  · exact .inr ⟨12, by decide, h⟩
  · exact .inr ⟨13, by decide, h⟩
  · exact .inr h
noncomputable def ckkC (F : ByteArray → Int → Bool → Bool → Bool → Int) : ConF := fun args k => match args with
  | [.agg [.v (.string nm), .v (.int .i32 r), .v (.bool c), .v (.bool a), .v (.bool s)]] => k (fun _ => (iv (F nm r c a s), []))
  | _ => none
theorem ckkC_ok {st : AE.Stat} (hx : ∀ f, f ≠ 5 → f ≠ 22 → ∀ a σ, st.ext f a σ = none) : ConOk Tryz.prog st 20 (ckkC (kcF cwF nmZ)) := by
  refine con_flat (mg := []) (l := [(48, kcC cwF), (49, ctC), (50, nmC nmZ)]) (lp := noLp) (n := 0) (glOk st) (fun x h => ?_) Tryz.func20 (by kernel_rfl) (by kernel_rfl) (hx 20 (by decide) (by decide)) (fun _ _ _ h => nomatch h) fun args k hk => ?_
  · simp only [List.mem_cons, List.not_mem_nil, or_false] at h
    rcases h with rfl | rfl | rfl
    · exact kcC_ok hx
    · exact ctC_ok hx
    · exact nmC_ok hx
  unfold ckkC at hk
  split at hk <;> first | (cases hk; done) | skip
  exact ⟨_, _, .self .nil, v_clo _, hk, kc_true _ _ _ _ _ _ _⟩
end Go.Proofs.YtabchbchopgnfaaGreatDoor

namespace Go.Proofs.YtabchbchopgnfaaGreatDoor
open Go Go.AE Go.DE Go.RowKit

def keyV (nm : ByteArray) (r : Int) (c a s : Bool) : Value := .agg #[.string nm, .int .i32 r, .bool c, .bool a, .bool s]
def mdV (b0 b1 b2 b3 b4 b5 b6 b7 : Bool) (x y z : Int) : Value := .agg #[.bool b0, .bool b1, .bool b2, .bool b3, .bool b4, .bool b5, .bool b6, .bool b7, .int .u8 x, .int .u8 y, .int .i64 z]
def modI (c a s : Bool) : Int := 1 + (bif s then 1 else 0) + (bif a then 2 else 0) + (bif c then 4 else 0)
def modV : List Value → Option Value
  | [.agg ⟨[.string _, .int .i32 _, .bool c, .bool a, .bool s]⟩] => some (.int .i64 (modI c a s))
  | _ => none
def itS (n : Int) : ByteArray := ⟨#[UInt8.ofNat (48 + n.toNat)]⟩
def itV : List Value → Option Value
  | [.int .i64 n] => if 1 ≤ n ∧ n ≤ 8 then some (.string (itS n)) else none
  | _ => none
noncomputable def stK0 : AE.Stat := ⟨fun _ _ => none, fun _ _ _ => none⟩
def extN : ExtG := fun f args _ _ => match f with
  | 51 => keepX modV args
  | 52 => keepX itV args
  | _ => none
noncomputable def stN : AE.Stat := ⟨fun _ _ => none, extOf extN⟩
noncomputable def gd0 : Gd := fun _ _ _ => none
noncomputable def gdN : Gd := fun f args σ => match f, args with
  | 51, [.agg ⟨[.string _, .int .i32 _, .bool c, .bool a, .bool s]⟩] => some (True, .int .i64 (modI c a s), σ)
  | 52, [.int .i64 n] => some (1 ≤ n ∧ n ≤ 8, .string (itS n), σ)
  | _, _ => none
def kStr : Value → Heap → Option Unit := fun v _ => match v with
  | .string _ => some ()
  | _ => none
theorem mod_in (c a s : Bool) : 1 ≤ modI c a s ∧ modI c a s ≤ 8 := by
  cases c <;> cases a <;> cases s <;> decide
theorem same_some {b : Bool} {x y : Option Unit} (hx : x = some ()) (hy : y = some ()) : (bif b then x else y) = some () := by cases b <;> assumption
theorem nd_tree0 (r : Int) (c a s b0 b1 b2 b3 b4 b5 b6 b7 : Bool) (x y z : Int) : runC Tryz.prog stN gdN 30 8 22 [keyV ⟨#[85, 112]⟩ r c a s, mdV b0 b1 b2 b3 b4 b5 b6 b7 x y z] [] kStr =
    bif holds True then bif holds (1 ≤ modI c a s ∧ modI c a s ≤ 8) then (bif modI c a s == (1 : Int) then (bif !b2 then some () else bif modI c a s == (1 : Int) then some () else some ()) else bif modI c a s == (1 : Int)
    then some () else some ()) else none else none := by
  kernel_rfl
theorem nd0 (r : Int) (c a s b0 b1 b2 b3 b4 b5 b6 b7 : Bool) (x y z : Int) : runC Tryz.prog stN gdN 30 8 22 [keyV ⟨#[85, 112]⟩ r c a s, mdV b0 b1 b2 b3 b4 b5 b6 b7 x y z] [] kStr = some () :=

  (nd_tree0 r c a s b0 b1 b2 b3 b4 b5 b6 b7 x y z).trans (hT trivial (hT (mod_in c a s) (same_some (same_some rfl (same_some rfl rfl)) (same_some rfl rfl))))
theorem nd_tree1 (r : Int) (c a s b0 b1 b2 b3 b4 b5 b6 b7 : Bool) (x y z : Int) : runC Tryz.prog stN gdN 30 8 22 [keyV ⟨#[68, 111, 119, 110]⟩ r c a s, mdV b0 b1 b2 b3 b4 b5 b6 b7 x y z] [] kStr =
    bif holds True then bif holds (1 ≤ modI c a s ∧ modI c a s ≤ 8) then (bif modI c a s == (1 : Int) then (bif !b2 then some () else bif modI c a s == (1 : Int) then some () else some ()) else bif modI c a s == (1 : Int)
    then some () else some ()) else none else none := by
  kernel_rfl
theorem nd1 (r : Int) (c a s b0 b1 b2 b3 b4 b5 b6 b7 : Bool) (x y z : Int) : runC Tryz.prog stN gdN 30 8 22 [keyV ⟨#[68, 111, 119, 110]⟩ r c a s, mdV b0 b1 b2 b3 b4 b5 b6 b7 x y z] [] kStr = some () :=

  (nd_tree1 r c a s b0 b1 b2 b3 b4 b5 b6 b7 x y z).trans (hT trivial (hT (mod_in c a s) (same_some (same_some rfl (same_some rfl rfl)) (same_some rfl rfl))))
theorem nd_tree2 (r : Int) (c a s b0 b1 b2 b3 b4 b5 b6 b7 : Bool) (x y z : Int) : runC Tryz.prog stN gdN 30 8 22 [keyV ⟨#[82, 105, 103, 104, 116]⟩ r c a s, mdV b0 b1 b2 b3 b4 b5 b6 b7 x y z] [] kStr =
    bif holds True then bif holds (1 ≤ modI c a s ∧ modI c a s ≤ 8) then (bif modI c a s == (1 : Int) then (bif !b2 then some () else bif modI c a s == (1 : Int) then some () else some ()) else bif modI c a s == (1 : Int)
    then some () else some ()) else none else none := by
  kernel_rfl
theorem nd2 (r : Int) (c a s b0 b1 b2 b3 b4 b5 b6 b7 : Bool) (x y z : Int) : runC Tryz.prog stN gdN 30 8 22 [keyV ⟨#[82, 105, 103, 104, 116]⟩ r c a s, mdV b0 b1 b2 b3 b4 b5 b6 b7 x y z] [] kStr = some () :=

  (nd_tree2 r c a s b0 b1 b2 b3 b4 b5 b6 b7 x y z).trans (hT trivial (hT (mod_in c a s) (same_some (same_some rfl (same_some rfl rfl)) (same_some rfl rfl))))
theorem nd_tree3 (r : Int) (c a s b0 b1 b2 b3 b4 b5 b6 b7 : Bool) (x y z : Int) : runC Tryz.prog stN gdN 30 8 22 [keyV ⟨#[76, 101, 102, 116]⟩ r c a s, mdV b0 b1 b2 b3 b4 b5 b6 b7 x y z] [] kStr =
    bif holds True then bif holds (1 ≤ modI c a s ∧ modI c a s ≤ 8) then (bif modI c a s == (1 : Int) then (bif !b2 then some () else bif modI c a s == (1 : Int) then some () else some ()) else bif modI c a s == (1 : Int)
    then some () else some ()) else none else none := by
  kernel_rfl
theorem nd3 (r : Int) (c a s b0 b1 b2 b3 b4 b5 b6 b7 : Bool) (x y z : Int) : runC Tryz.prog stN gdN 30 8 22 [keyV ⟨#[76, 101, 102, 116]⟩ r c a s, mdV b0 b1 b2 b3 b4 b5 b6 b7 x y z] [] kStr = some () :=

  (nd_tree3 r c a s b0 b1 b2 b3 b4 b5 b6 b7 x y z).trans (hT trivial (hT (mod_in c a s) (same_some (same_some rfl (same_some rfl rfl)) (same_some rfl rfl))))
theorem nd_tree4 (r : Int) (c a s b0 b1 b2 b3 b4 b5 b6 b7 : Bool) (x y z : Int) : runC Tryz.prog stN gdN 30 8 22 [keyV ⟨#[72, 111, 109, 101]⟩ r c a s, mdV b0 b1 b2 b3 b4 b5 b6 b7 x y z] [] kStr =
    bif holds True then bif holds (1 ≤ modI c a s ∧ modI c a s ≤ 8) then (bif modI c a s == (1 : Int) then (bif !b2 then some () else bif modI c a s == (1 : Int) then some () else some ()) else bif modI c a s == (1 : Int)
    then some () else some ()) else none else none := by
  kernel_rfl
theorem nd4 (r : Int) (c a s b0 b1 b2 b3 b4 b5 b6 b7 : Bool) (x y z : Int) : runC Tryz.prog stN gdN 30 8 22 [keyV ⟨#[72, 111, 109, 101]⟩ r c a s, mdV b0 b1 b2 b3 b4 b5 b6 b7 x y z] [] kStr = some () :=

  (nd_tree4 r c a s b0 b1 b2 b3 b4 b5 b6 b7 x y z).trans (hT trivial (hT (mod_in c a s) (same_some (same_some rfl (same_some rfl rfl)) (same_some rfl rfl))))
theorem nd_tree5 (r : Int) (c a s b0 b1 b2 b3 b4 b5 b6 b7 : Bool) (x y z : Int) : runC Tryz.prog stN gdN 30 8 22 [keyV ⟨#[69, 110, 100]⟩ r c a s, mdV b0 b1 b2 b3 b4 b5 b6 b7 x y z] [] kStr =
    bif holds True then bif holds (1 ≤ modI c a s ∧ modI c a s ≤ 8) then (bif modI c a s == (1 : Int) then (bif !b2 then some () else bif modI c a s == (1 : Int) then some () else some ()) else bif modI c a s == (1 : Int)
    then some () else some ()) else none else none := by
  kernel_rfl
theorem nd5 (r : Int) (c a s b0 b1 b2 b3 b4 b5 b6 b7 : Bool) (x y z : Int) : runC Tryz.prog stN gdN 30 8 22 [keyV ⟨#[69, 110, 100]⟩ r c a s, mdV b0 b1 b2 b3 b4 b5 b6 b7 x y z] [] kStr = some () :=

  (nd_tree5 r c a s b0 b1 b2 b3 b4 b5 b6 b7 x y z).trans (hT trivial (hT (mod_in c a s) (same_some (same_some rfl (same_some rfl rfl)) (same_some rfl rfl))))
theorem nd_tree6 (r : Int) (c a s b0 b1 b2 b3 b4 b5 b6 b7 : Bool) (x y z : Int) : runC Tryz.prog stN gdN 30 8 22 [keyV ⟨#[73, 110, 115, 101, 114, 116]⟩ r c a s, mdV b0 b1 b2 b3 b4 b5 b6 b7 x y z] [] kStr =
    bif holds True then bif holds (1 ≤ modI c a s ∧ modI c a s ≤ 8) then (bif modI c a s == (1 : Int) then some () else some ()) else none else none := by
  kernel_rfl
theorem nd6 (r : Int) (c a s b0 b1 b2 b3 b4 b5 b6 b7 : Bool) (x y z : Int) : runC Tryz.prog stN gdN 30 8 22 [keyV ⟨#[73, 110, 115, 101, 114, 116]⟩ r c a s, mdV b0 b1 b2 b3 b4 b5 b6 b7 x y z] [] kStr = some () :=

  (nd_tree6 r c a s b0 b1 b2 b3 b4 b5 b6 b7 x y z).trans (hT trivial (hT (mod_in c a s) (same_some rfl rfl)))
theorem nd_tree7 (r : Int) (c a s b0 b1 b2 b3 b4 b5 b6 b7 : Bool) (x y z : Int) : runC Tryz.prog stN gdN 30 8 22 [keyV ⟨#[68, 101, 108, 101, 116, 101]⟩ r c a s, mdV b0 b1 b2 b3 b4 b5 b6 b7 x y z] [] kStr =
    bif holds True then bif holds (1 ≤ modI c a s ∧ modI c a s ≤ 8) then (bif modI c a s == (1 : Int) then some () else some ()) else none else none := by
  kernel_rfl
theorem nd7 (r : Int) (c a s b0 b1 b2 b3 b4 b5 b6 b7 : Bool) (x y z : Int) : runC Tryz.prog stN gdN 30 8 22 [keyV ⟨#[68, 101, 108, 101, 116, 101]⟩ r c a s, mdV b0 b1 b2 b3 b4 b5 b6 b7 x y z] [] kStr = some () :=

  (nd_tree7 r c a s b0 b1 b2 b3 b4 b5 b6 b7 x y z).trans (hT trivial (hT (mod_in c a s) (same_some rfl rfl)))
theorem nd_tree8 (r : Int) (c a s b0 b1 b2 b3 b4 b5 b6 b7 : Bool) (x y z : Int) : runC Tryz.prog stN gdN 30 8 22 [keyV ⟨#[80, 97, 103, 101, 85, 112]⟩ r c a s, mdV b0 b1 b2 b3 b4 b5 b6 b7 x y z] [] kStr =
    bif holds True then bif holds (1 ≤ modI c a s ∧ modI c a s ≤ 8) then (bif modI c a s == (1 : Int) then some () else some ()) else none else none := by
  kernel_rfl
theorem nd8 (r : Int) (c a s b0 b1 b2 b3 b4 b5 b6 b7 : Bool) (x y z : Int) : runC Tryz.prog stN gdN 30 8 22 [keyV ⟨#[80, 97, 103, 101, 85, 112]⟩ r c a s, mdV b0 b1 b2 b3 b4 b5 b6 b7 x y z] [] kStr = some () :=

  (nd_tree8 r c a s b0 b1 b2 b3 b4 b5 b6 b7 x y z).trans (hT trivial (hT (mod_in c a s) (same_some rfl rfl)))
theorem nd_tree9 (r : Int) (c a s b0 b1 b2 b3 b4 b5 b6 b7 : Bool) (x y z : Int) : runC Tryz.prog stN gdN 30 8 22 [keyV ⟨#[80, 97, 103, 101, 68, 111, 119, 110]⟩ r c a s, mdV b0 b1 b2 b3 b4 b5 b6 b7 x y z] [] kStr =
    bif holds True then bif holds (1 ≤ modI c a s ∧ modI c a s ≤ 8) then (bif modI c a s == (1 : Int) then some () else some ()) else none else none := by
  kernel_rfl
theorem nd9 (r : Int) (c a s b0 b1 b2 b3 b4 b5 b6 b7 : Bool) (x y z : Int) : runC Tryz.prog stN gdN 30 8 22 [keyV ⟨#[80, 97, 103, 101, 68, 111, 119, 110]⟩ r c a s, mdV b0 b1 b2 b3 b4 b5 b6 b7 x y z] [] kStr = some () :=

  (nd_tree9 r c a s b0 b1 b2 b3 b4 b5 b6 b7 x y z).trans (hT trivial (hT (mod_in c a s) (same_some rfl rfl)))
theorem nd_tree10 (r : Int) (c a s b0 b1 b2 b3 b4 b5 b6 b7 : Bool) (x y z : Int) : runC Tryz.prog stN gdN 30 8 22 [keyV ⟨#[84, 97, 98]⟩ r c a s, mdV b0 b1 b2 b3 b4 b5 b6 b7 x y z] [] kStr =
    bif holds True then bif holds (1 ≤ modI c a s ∧ modI c a s ≤ 8) then (bif modI c a s == (1 : Int) then some () else some ()) else none else none := by
  kernel_rfl
theorem nd10 (r : Int) (c a s b0 b1 b2 b3 b4 b5 b6 b7 : Bool) (x y z : Int) : runC Tryz.prog stN gdN 30 8 22 [keyV ⟨#[84, 97, 98]⟩ r c a s, mdV b0 b1 b2 b3 b4 b5 b6 b7 x y z] [] kStr = some () :=

  (nd_tree10 r c a s b0 b1 b2 b3 b4 b5 b6 b7 x y z).trans (hT trivial (hT (mod_in c a s) (same_some rfl rfl)))
theorem nd_tree11 (r : Int) (c a s b0 b1 b2 b3 b4 b5 b6 b7 : Bool) (x y z : Int) : runC Tryz.prog stN gdN 30 8 22 [keyV ⟨#[69, 110, 116, 101, 114]⟩ r c a s, mdV b0 b1 b2 b3 b4 b5 b6 b7 x y z] [] kStr =
    bif holds True then bif holds (1 ≤ modI c a s ∧ modI c a s ≤ 8) then (bif modI c a s == (1 : Int) then some () else some ()) else none else none := by
  kernel_rfl
theorem nd11 (r : Int) (c a s b0 b1 b2 b3 b4 b5 b6 b7 : Bool) (x y z : Int) : runC Tryz.prog stN gdN 30 8 22 [keyV ⟨#[69, 110, 116, 101, 114]⟩ r c a s, mdV b0 b1 b2 b3 b4 b5 b6 b7 x y z] [] kStr = some () :=

  (nd_tree11 r c a s b0 b1 b2 b3 b4 b5 b6 b7 x y z).trans (hT trivial (hT (mod_in c a s) (same_some rfl rfl)))
theorem nd_tree12 (r : Int) (c a s b0 b1 b2 b3 b4 b5 b6 b7 : Bool) (x y z : Int) : runC Tryz.prog stN gdN 30 8 22 [keyV ⟨#[69, 115, 99, 97, 112, 101]⟩ r c a s, mdV b0 b1 b2 b3 b4 b5 b6 b7 x y z] [] kStr =
    bif holds True then bif holds (1 ≤ modI c a s ∧ modI c a s ≤ 8) then (bif modI c a s == (1 : Int) then some () else some ()) else none else none := by
  kernel_rfl
theorem nd12 (r : Int) (c a s b0 b1 b2 b3 b4 b5 b6 b7 : Bool) (x y z : Int) : runC Tryz.prog stN gdN 30 8 22 [keyV ⟨#[69, 115, 99, 97, 112, 101]⟩ r c a s, mdV b0 b1 b2 b3 b4 b5 b6 b7 x y z] [] kStr = some () :=

  (nd_tree12 r c a s b0 b1 b2 b3 b4 b5 b6 b7 x y z).trans (hT trivial (hT (mod_in c a s) (same_some rfl rfl)))
theorem nd_tree13 (r : Int) (c a s b0 b1 b2 b3 b4 b5 b6 b7 : Bool) (x y z : Int) : runC Tryz.prog stN gdN 30 8 22 [keyV ⟨#[66, 97, 99, 107, 115, 112, 97, 99, 101]⟩ r c a s, mdV b0 b1 b2 b3 b4 b5 b6 b7 x y z] [] kStr =
    bif holds True then bif holds (1 ≤ modI c a s ∧ modI c a s ≤ 8) then (bif modI c a s == (1 : Int) then some () else some ()) else none else none := by
  kernel_rfl
theorem nd13 (r : Int) (c a s b0 b1 b2 b3 b4 b5 b6 b7 : Bool) (x y z : Int) : runC Tryz.prog stN gdN 30 8 22 [keyV ⟨#[66, 97, 99, 107, 115, 112, 97, 99, 101]⟩ r c a s, mdV b0 b1 b2 b3 b4 b5 b6 b7 x y z] [] kStr = some () :=

  (nd_tree13 r c a s b0 b1 b2 b3 b4 b5 b6 b7 x y z).trans (hT trivial (hT (mod_in c a s) (same_some rfl rfl)))
theorem nd_tree14 (r : Int) (c a s b0 b1 b2 b3 b4 b5 b6 b7 : Bool) (x y z : Int) : runC Tryz.prog stN gdN 30 8 22 [keyV ⟨#[70, 49]⟩ r c a s, mdV b0 b1 b2 b3 b4 b5 b6 b7 x y z] [] kStr =
    bif holds True then bif holds (1 ≤ modI c a s ∧ modI c a s ≤ 8) then (bif modI c a s == (1 : Int) then some () else some ()) else none else none := by
  kernel_rfl
theorem nd14 (r : Int) (c a s b0 b1 b2 b3 b4 b5 b6 b7 : Bool) (x y z : Int) : runC Tryz.prog stN gdN 30 8 22 [keyV ⟨#[70, 49]⟩ r c a s, mdV b0 b1 b2 b3 b4 b5 b6 b7 x y z] [] kStr = some () :=

  (nd_tree14 r c a s b0 b1 b2 b3 b4 b5 b6 b7 x y z).trans (hT trivial (hT (mod_in c a s) (same_some rfl rfl)))
theorem nd_tree15 (r : Int) (c a s b0 b1 b2 b3 b4 b5 b6 b7 : Bool) (x y z : Int) : runC Tryz.prog stN gdN 30 8 22 [keyV ⟨#[70, 50]⟩ r c a s, mdV b0 b1 b2 b3 b4 b5 b6 b7 x y z] [] kStr =
    bif holds True then bif holds (1 ≤ modI c a s ∧ modI c a s ≤ 8) then (bif modI c a s == (1 : Int) then some () else some ()) else none else none := by
  kernel_rfl
theorem nd15 (r : Int) (c a s b0 b1 b2 b3 b4 b5 b6 b7 : Bool) (x y z : Int) : runC Tryz.prog stN gdN 30 8 22 [keyV ⟨#[70, 50]⟩ r c a s, mdV b0 b1 b2 b3 b4 b5 b6 b7 x y z] [] kStr = some () :=

  (nd_tree15 r c a s b0 b1 b2 b3 b4 b5 b6 b7 x y z).trans (hT trivial (hT (mod_in c a s) (same_some rfl rfl)))
theorem nd_tree16 (r : Int) (c a s b0 b1 b2 b3 b4 b5 b6 b7 : Bool) (x y z : Int) : runC Tryz.prog stN gdN 30 8 22 [keyV ⟨#[70, 51]⟩ r c a s, mdV b0 b1 b2 b3 b4 b5 b6 b7 x y z] [] kStr =
    bif holds True then bif holds (1 ≤ modI c a s ∧ modI c a s ≤ 8) then (bif modI c a s == (1 : Int) then some () else some ()) else none else none := by
  kernel_rfl
theorem nd16 (r : Int) (c a s b0 b1 b2 b3 b4 b5 b6 b7 : Bool) (x y z : Int) : runC Tryz.prog stN gdN 30 8 22 [keyV ⟨#[70, 51]⟩ r c a s, mdV b0 b1 b2 b3 b4 b5 b6 b7 x y z] [] kStr = some () :=

  (nd_tree16 r c a s b0 b1 b2 b3 b4 b5 b6 b7 x y z).trans (hT trivial (hT (mod_in c a s) (same_some rfl rfl)))
theorem nd_tree17 (r : Int) (c a s b0 b1 b2 b3 b4 b5 b6 b7 : Bool) (x y z : Int) : runC Tryz.prog stN gdN 30 8 22 [keyV ⟨#[70, 52]⟩ r c a s, mdV b0 b1 b2 b3 b4 b5 b6 b7 x y z] [] kStr =
    bif holds True then bif holds (1 ≤ modI c a s ∧ modI c a s ≤ 8) then (bif modI c a s == (1 : Int) then some () else some ()) else none else none := by
  kernel_rfl
theorem nd17 (r : Int) (c a s b0 b1 b2 b3 b4 b5 b6 b7 : Bool) (x y z : Int) : runC Tryz.prog stN gdN 30 8 22 [keyV ⟨#[70, 52]⟩ r c a s, mdV b0 b1 b2 b3 b4 b5 b6 b7 x y z] [] kStr = some () :=

  (nd_tree17 r c a s b0 b1 b2 b3 b4 b5 b6 b7 x y z).trans (hT trivial (hT (mod_in c a s) (same_some rfl rfl)))
theorem nd_tree18 (r : Int) (c a s b0 b1 b2 b3 b4 b5 b6 b7 : Bool) (x y z : Int) : runC Tryz.prog stN gdN 30 8 22 [keyV ⟨#[70, 53]⟩ r c a s, mdV b0 b1 b2 b3 b4 b5 b6 b7 x y z] [] kStr =
    bif holds True then bif holds (1 ≤ modI c a s ∧ modI c a s ≤ 8) then (bif modI c a s == (1 : Int) then some () else some ()) else none else none := by
  kernel_rfl
theorem nd18 (r : Int) (c a s b0 b1 b2 b3 b4 b5 b6 b7 : Bool) (x y z : Int) : runC Tryz.prog stN gdN 30 8 22 [keyV ⟨#[70, 53]⟩ r c a s, mdV b0 b1 b2 b3 b4 b5 b6 b7 x y z] [] kStr = some () :=

  (nd_tree18 r c a s b0 b1 b2 b3 b4 b5 b6 b7 x y z).trans (hT trivial (hT (mod_in c a s) (same_some rfl rfl)))
theorem nd_tree19 (r : Int) (c a s b0 b1 b2 b3 b4 b5 b6 b7 : Bool) (x y z : Int) : runC Tryz.prog stN gdN 30 8 22 [keyV ⟨#[70, 54]⟩ r c a s, mdV b0 b1 b2 b3 b4 b5 b6 b7 x y z] [] kStr =
    bif holds True then bif holds (1 ≤ modI c a s ∧ modI c a s ≤ 8) then (bif modI c a s == (1 : Int) then some () else some ()) else none else none := by
  kernel_rfl
theorem nd19 (r : Int) (c a s b0 b1 b2 b3 b4 b5 b6 b7 : Bool) (x y z : Int) : runC Tryz.prog stN gdN 30 8 22 [keyV ⟨#[70, 54]⟩ r c a s, mdV b0 b1 b2 b3 b4 b5 b6 b7 x y z] [] kStr = some () :=

  (nd_tree19 r c a s b0 b1 b2 b3 b4 b5 b6 b7 x y z).trans (hT trivial (hT (mod_in c a s) (same_some rfl rfl)))
theorem nd_tree20 (r : Int) (c a s b0 b1 b2 b3 b4 b5 b6 b7 : Bool) (x y z : Int) : runC Tryz.prog stN gdN 30 8 22 [keyV ⟨#[70, 55]⟩ r c a s, mdV b0 b1 b2 b3 b4 b5 b6 b7 x y z] [] kStr =
    bif holds True then bif holds (1 ≤ modI c a s ∧ modI c a s ≤ 8) then (bif modI c a s == (1 : Int) then some () else some ()) else none else none := by
  kernel_rfl
theorem nd20 (r : Int) (c a s b0 b1 b2 b3 b4 b5 b6 b7 : Bool) (x y z : Int) : runC Tryz.prog stN gdN 30 8 22 [keyV ⟨#[70, 55]⟩ r c a s, mdV b0 b1 b2 b3 b4 b5 b6 b7 x y z] [] kStr = some () :=

  (nd_tree20 r c a s b0 b1 b2 b3 b4 b5 b6 b7 x y z).trans (hT trivial (hT (mod_in c a s) (same_some rfl rfl)))
theorem nd_tree21 (r : Int) (c a s b0 b1 b2 b3 b4 b5 b6 b7 : Bool) (x y z : Int) : runC Tryz.prog stN gdN 30 8 22 [keyV ⟨#[70, 56]⟩ r c a s, mdV b0 b1 b2 b3 b4 b5 b6 b7 x y z] [] kStr =
    bif holds True then bif holds (1 ≤ modI c a s ∧ modI c a s ≤ 8) then (bif modI c a s == (1 : Int) then some () else some ()) else none else none := by
  kernel_rfl
theorem nd21 (r : Int) (c a s b0 b1 b2 b3 b4 b5 b6 b7 : Bool) (x y z : Int) : runC Tryz.prog stN gdN 30 8 22 [keyV ⟨#[70, 56]⟩ r c a s, mdV b0 b1 b2 b3 b4 b5 b6 b7 x y z] [] kStr = some () :=

  (nd_tree21 r c a s b0 b1 b2 b3 b4 b5 b6 b7 x y z).trans (hT trivial (hT (mod_in c a s) (same_some rfl rfl)))
theorem nd_tree22 (r : Int) (c a s b0 b1 b2 b3 b4 b5 b6 b7 : Bool) (x y z : Int) : runC Tryz.prog stN gdN 30 8 22 [keyV ⟨#[70, 57]⟩ r c a s, mdV b0 b1 b2 b3 b4 b5 b6 b7 x y z] [] kStr =
    bif holds True then bif holds (1 ≤ modI c a s ∧ modI c a s ≤ 8) then (bif modI c a s == (1 : Int) then some () else some ()) else none else none := by
  kernel_rfl
theorem nd22 (r : Int) (c a s b0 b1 b2 b3 b4 b5 b6 b7 : Bool) (x y z : Int) : runC Tryz.prog stN gdN 30 8 22 [keyV ⟨#[70, 57]⟩ r c a s, mdV b0 b1 b2 b3 b4 b5 b6 b7 x y z] [] kStr = some () :=

  (nd_tree22 r c a s b0 b1 b2 b3 b4 b5 b6 b7 x y z).trans (hT trivial (hT (mod_in c a s) (same_some rfl rfl)))
theorem nd_tree23 (r : Int) (c a s b0 b1 b2 b3 b4 b5 b6 b7 : Bool) (x y z : Int) : runC Tryz.prog stN gdN 30 8 22 [keyV ⟨#[70, 49, 48]⟩ r c a s, mdV b0 b1 b2 b3 b4 b5 b6 b7 x y z] [] kStr =
    bif holds True then bif holds (1 ≤ modI c a s ∧ modI c a s ≤ 8) then (bif modI c a s == (1 : Int) then some () else some ()) else none else none := by
  kernel_rfl
theorem nd23 (r : Int) (c a s b0 b1 b2 b3 b4 b5 b6 b7 : Bool) (x y z : Int) : runC Tryz.prog stN gdN 30 8 22 [keyV ⟨#[70, 49, 48]⟩ r c a s, mdV b0 b1 b2 b3 b4 b5 b6 b7 x y z] [] kStr = some () :=

  (nd_tree23 r c a s b0 b1 b2 b3 b4 b5 b6 b7 x y z).trans (hT trivial (hT (mod_in c a s) (same_some rfl rfl)))
theorem nd_tree24 (r : Int) (c a s b0 b1 b2 b3 b4 b5 b6 b7 : Bool) (x y z : Int) : runC Tryz.prog stN gdN 30 8 22 [keyV ⟨#[70, 49, 49]⟩ r c a s, mdV b0 b1 b2 b3 b4 b5 b6 b7 x y z] [] kStr =
    bif holds True then bif holds (1 ≤ modI c a s ∧ modI c a s ≤ 8) then (bif modI c a s == (1 : Int) then some () else some ()) else none else none := by
  kernel_rfl
theorem nd24 (r : Int) (c a s b0 b1 b2 b3 b4 b5 b6 b7 : Bool) (x y z : Int) : runC Tryz.prog stN gdN 30 8 22 [keyV ⟨#[70, 49, 49]⟩ r c a s, mdV b0 b1 b2 b3 b4 b5 b6 b7 x y z] [] kStr = some () :=

  (nd_tree24 r c a s b0 b1 b2 b3 b4 b5 b6 b7 x y z).trans (hT trivial (hT (mod_in c a s) (same_some rfl rfl)))
theorem nd_tree25 (r : Int) (c a s b0 b1 b2 b3 b4 b5 b6 b7 : Bool) (x y z : Int) : runC Tryz.prog stN gdN 30 8 22 [keyV ⟨#[70, 49, 50]⟩ r c a s, mdV b0 b1 b2 b3 b4 b5 b6 b7 x y z] [] kStr =
    bif holds True then bif holds (1 ≤ modI c a s ∧ modI c a s ≤ 8) then (bif modI c a s == (1 : Int) then some () else some ()) else none else none := by
  kernel_rfl
theorem nd25 (r : Int) (c a s b0 b1 b2 b3 b4 b5 b6 b7 : Bool) (x y z : Int) : runC Tryz.prog stN gdN 30 8 22 [keyV ⟨#[70, 49, 50]⟩ r c a s, mdV b0 b1 b2 b3 b4 b5 b6 b7 x y z] [] kStr = some () :=

  (nd_tree25 r c a s b0 b1 b2 b3 b4 b5 b6 b7 x y z).trans (hT trivial (hT (mod_in c a s) (same_some rfl rfl)))
theorem nd_tree26 (r : Int) (c a s b0 b1 b2 b3 b4 b5 b6 b7 : Bool) (x y z : Int) : runC Tryz.prog stN gdN 30 8 22 [keyV ⟨#[]⟩ r c a s, mdV b0 b1 b2 b3 b4 b5 b6 b7 x y z] [] kStr =
    bif holds True then bif holds (1 ≤ modI c a s ∧ modI c a s ≤ 8) then (bif modI c a s == (1 : Int) then some () else some ()) else none else none := by
  kernel_rfl
theorem nd26 (r : Int) (c a s b0 b1 b2 b3 b4 b5 b6 b7 : Bool) (x y z : Int) : runC Tryz.prog stN gdN 30 8 22 [keyV ⟨#[]⟩ r c a s, mdV b0 b1 b2 b3 b4 b5 b6 b7 x y z] [] kStr = some () :=

  (nd_tree26 r c a s b0 b1 b2 b3 b4 b5 b6 b7 x y z).trans (hT trivial (hT (mod_in c a s) (same_some rfl rfl)))
/-- The names that named is asked for. -/
def isName (nm : ByteArray) : Prop := nm = ⟨#[]⟩ ∨ ∃ i, i < 26 ∧ nm = nmZ i
theorem nd_all {nm : ByteArray} (h : isName nm) (r : Int) (c a s b0 b1 b2 b3 b4 b5 b6 b7 : Bool) (x y z : Int) : runC Tryz.prog stN gdN 30 8 22 [keyV nm r c a s, mdV b0 b1 b2 b3 b4 b5 b6 b7 x y z] [] kStr = some () := by
  rcases h with rfl | ⟨i, hi, rfl⟩
  · exact nd26 r c a s b0 b1 b2 b3 b4 b5 b6 b7 x y z
  · have hi : i = 0 ∨ i = 1 ∨ i = 2 ∨ i = 3 ∨ i = 4 ∨ i = 5 ∨ i = 6 ∨ i = 7 ∨ i = 8 ∨ i = 9 ∨ i = 10 ∨ i = 11 ∨ i = 12 ∨ i = 13 ∨ i = 14 ∨ i = 15 ∨ i = 16 ∨ i = 17 ∨ i = 18 ∨ i = 19 ∨ i = 20 ∨ i = 21 ∨ i = 22 ∨ i = 23 ∨ i = 24 ∨ i = 25 := by omega
    rcases hi with rfl | rfl | rfl | rfl | rfl | rfl | rfl | rfl | rfl | rfl | rfl | rfl | rfl | rfl | rfl | rfl | rfl | rfl | rfl | rfl | rfl | rfl | rfl | rfl | rfl | rfl
    · exact nd0 r c a s b0 b1 b2 b3 b4 b5 b6 b7 x y z
    · exact nd1 r c a s b0 b1 b2 b3 b4 b5 b6 b7 x y z
    · exact nd2 r c a s b0 b1 b2 b3 b4 b5 b6 b7 x y z
    · exact nd3 r c a s b0 b1 b2 b3 b4 b5 b6 b7 x y z
    · exact nd4 r c a s b0 b1 b2 b3 b4 b5 b6 b7 x y z
    · exact nd5 r c a s b0 b1 b2 b3 b4 b5 b6 b7 x y z
    · exact nd6 r c a s b0 b1 b2 b3 b4 b5 b6 b7 x y z
    · exact nd7 r c a s b0 b1 b2 b3 b4 b5 b6 b7 x y z
    · exact nd8 r c a s b0 b1 b2 b3 b4 b5 b6 b7 x y z
    · exact nd9 r c a s b0 b1 b2 b3 b4 b5 b6 b7 x y z
    · exact nd10 r c a s b0 b1 b2 b3 b4 b5 b6 b7 x y z
    · exact nd11 r c a s b0 b1 b2 b3 b4 b5 b6 b7 x y z
    · exact nd12 r c a s b0 b1 b2 b3 b4 b5 b6 b7 x y z
    · exact nd13 r c a s b0 b1 b2 b3 b4 b5 b6 b7 x y z
    · exact nd14 r c a s b0 b1 b2 b3 b4 b5 b6 b7 x y z
    · exact nd15 r c a s b0 b1 b2 b3 b4 b5 b6 b7 x y z
    · exact nd16 r c a s b0 b1 b2 b3 b4 b5 b6 b7 x y z
    · exact nd17 r c a s b0 b1 b2 b3 b4 b5 b6 b7 x y z
    · exact nd18 r c a s b0 b1 b2 b3 b4 b5 b6 b7 x y z
    · exact nd19 r c a s b0 b1 b2 b3 b4 b5 b6 b7 x y z
    · exact nd20 r c a s b0 b1 b2 b3 b4 b5 b6 b7 x y z
    · exact nd21 r c a s b0 b1 b2 b3 b4 b5 b6 b7 x y z
    · exact nd22 r c a s b0 b1 b2 b3 b4 b5 b6 b7 x y z
    · exact nd23 r c a s b0 b1 b2 b3 b4 b5 b6 b7 x y z
    · exact nd24 r c a s b0 b1 b2 b3 b4 b5 b6 b7 x y z
    · exact nd25 r c a s b0 b1 b2 b3 b4 b5 b6 b7 x y z
theorem gdN_ext : GdExt stN gdN := fun f args σ p v σ' h hp => by
  unfold gdN at h
  split at h
  · simp only [Option.some.injEq, Prod.mk.injEq] at h
    obtain ⟨-, rfl, rfl⟩ := h
    rfl
  · rename_i n
    simp only [Option.some.injEq, Prod.mk.injEq] at h
    obtain ⟨rfl, rfl, rfl⟩ := h
    show RG.app σ ((itV [.int .i64 n]).map (·, .keep)) = _
    rw [show itV [.int .i64 n] = some (.string (itS n)) from if_pos hp]
    rfl
  · cases h
def strO : Option (Value × Heap) → Option Value
  | some (.string t, _) => some (.string t)
  | _ => none
/-- What named answers. -/
noncomputable def namedV (args : List Value) : Option Value := cond (args.all flat) (strO (runF Tryz.prog stN 30 8 22 args [])) none
theorem strO_some {o : Option (Value × Heap)} {v : Value} (h : strO o = some v) : flat v = true ∧ ∃ σ, o = some (v, σ) := by
  unfold strO at h
  split at h <;> first | (cases h; done) | skip
  obtain rfl := Option.some.inj h
  exact ⟨rfl, _, rfl⟩
theorem namedV_run {args : List Value} {v : Value} (h : namedV args = some v) : args.all flat = true ∧ flat v = true ∧ ∃ σ, runF Tryz.prog stN 30 8 22 args [] = some (v, σ) := by
  unfold namedV at h
  cases ha : args.all flat with
  | false => rw [ha] at h; cases h
  | true =>
    rw [ha, cond_true] at h
    exact ⟨rfl, strO_some h⟩
theorem kStr_some {v : Value} {σ : Heap} (h : kStr v σ = some ()) : ∃ t, v = .string t := by
  unfold kStr at h
  split at h <;> first | (cases h; done) | skip
  exact ⟨_, rfl⟩
theorem namedV_all {nm : ByteArray} (h : isName nm) (r : Int) (c a s b0 b1 b2 b3 b4 b5 b6 b7 : Bool) (x y z : Int) : ∃ t, namedV [keyV nm r c a s, mdV b0 b1 b2 b3 b4 b5 b6 b7 x y z] = some (.string t) := by
  obtain ⟨v, σ', h1, h2⟩ := runC_some gdN_ext 8 _ _ _ _ (nd_all h r c a s b0 b1 b2 b3 b4 b5 b6 b7 x y z)
  obtain ⟨t, rfl⟩ := kStr_some h2
  refine ⟨t, ?_⟩
  unfold namedV
  rw [show [keyV nm r c a s, mdV b0 b1 b2 b3 b4 b5 b6 b7 x y z].all flat = true from rfl, cond_true, h1]
  rfl
/-! ### The functions that named leans on -/
def kI64 : Value → Heap → Option Int := fun v _ => match v with
  | .int .i64 m => some m
  | _ => none
def kSt : Value → Heap → Option ByteArray := fun v _ => match v with
  | .string t => some t
  | _ => none
theorem mod_run (nm : ByteArray) (r : Int) (c a s : Bool) : ∃ σ, runF Tryz.prog stK0 30 4 51 [keyV nm r c a s] [] = some (.int .i64 (modI c a s), σ) := by
  have key : ∀ (n : Int), runC Tryz.prog stK0 gd0 30 4 51 [keyV nm r c a s] [] kI64 = some n → ∃ σ, runF Tryz.prog stK0 30 4 51 [keyV nm r c a s] [] = some (.int .i64 n, σ) := fun n h => by
    obtain ⟨v, σ', h1, h2⟩ := runC_some (gd := gd0) (fun f args σ p v σ' h => nomatch h) 4 _ _ _ _ h
    unfold kI64 at h2
    split at h2 <;> first | (cases h2; done) | skip
    obtain rfl := Option.some.inj h2
    exact ⟨σ', h1⟩
  cases c <;> cases a <;> cases s <;> exact key _ (by kernel_rfl)
theorem it_run (n : Int) (h : 1 ≤ n ∧ n ≤ 8) : ∃ σ, runF Tryz.prog stK0 30 6 52 [.int .i64 n] [] = some (.string (itS n), σ) := by
  have key : ∀ (m : Int) (t : ByteArray), runC Tryz.prog stK0 gd0 30 6 52 [.int .i64 m] [] kSt = some t → ∃ σ, runF Tryz.prog stK0 30 6 52 [.int .i64 m] [] = some (.string t, σ) := fun m t h => by
    obtain ⟨v, σ', h1, h2⟩ := runC_some (gd := gd0) (fun f args σ p v σ' h => nomatch h) 6 _ _ _ _ h
    unfold kSt at h2
    split at h2 <;> first | (cases h2; done) | skip
    obtain rfl := Option.some.inj h2
    exact ⟨σ', h1⟩
  have : n = 1 ∨ n = 2 ∨ n = 3 ∨ n = 4 ∨ n = 5 ∨ n = 6 ∨ n = 7 ∨ n = 8 := by omega
  rcases this with rfl | rfl | rfl | rfl | rfl | rfl | rfl | rfl <;> exact key _ _ (by kernel_rfl)
theorem follows : Tryz.prog.follows .mixedOrders = true := by kernel_rfl
theorem noCall {W : World} : CallOk Tryz.prog W stK0.ext := fun f args σ v σ' h => nomatch h
theorem extN_ok {W : World} : CallOk Tryz.prog W stN.ext := by
  intro f
  by_cases h1 : f = 51
  · subst h1
    intro args σ v σ' hx
    have hok : FnOk Tryz.prog W 51 (flatFn modV) := fnOk_of ((runF_sound (n := 30) (st := stK0) (fun b i v h => nomatch h) noCall follows 4).fn 51 (by rw [Tryz.func51]; rfl)) fun args v hg => by
      unfold modV at hg
      split at hg <;> first | (cases hg; done) | skip
      rename_i nm r c a s
      obtain rfl := Option.some.inj hg
      exact ⟨rfl, rfl, mod_run nm r c a s⟩
    refine hok args σ v σ' ?_
    obtain ⟨h1, rfl⟩ := keepX_app (g := modV) hx
    simp [flatFn, h1]
  by_cases h2 : f = 52
  · subst h2
    intro args σ v σ' hx
    have hok : FnOk Tryz.prog W 52 (flatFn itV) := fnOk_of ((runF_sound (n := 30) (st := stK0) (fun b i v h => nomatch h) noCall follows 6).fn 52 (by rw [Tryz.func52]; rfl)) fun args v hg => by
      unfold itV at hg
      split at hg <;> first | (cases hg; done) | skip
      split at hg <;> first | (cases hg; done) | skip
      rename_i n hn
      obtain rfl := Option.some.inj hg
      exact ⟨rfl, rfl, it_run n hn⟩
    refine hok args σ v σ' ?_
    obtain ⟨h1, rfl⟩ := keepX_app (g := itV) hx
    simp [flatFn, h1]
  · intro args σ v σ' hx
    exfalso
    have : extN f args (hp σ) σ.length = none := by
      unfold extN
      split <;> first | contradiction | rfl
    simp [stN, extOf, RG.app, this] at hx
theorem named_ok {W : World} : FnOk Tryz.prog W 22 (flatFn namedV) :=

  fnOk_of ((runF_sound (n := 30) (st := stN) (fun b i v h => nomatch h) extN_ok follows 8).fn 22 (by rw [Tryz.func22]; rfl)) fun _ _ hg => namedV_run hg
end Go.Proofs.YtabchbchopgnfaaGreatDoor
