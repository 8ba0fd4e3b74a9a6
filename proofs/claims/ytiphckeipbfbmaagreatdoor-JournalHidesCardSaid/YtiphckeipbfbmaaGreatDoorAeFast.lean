/-
  The evaluator once more, for closed runs in the kernel: temporaries and blocks in trees, each value worked out before it is handed on.
  Conditions: none; what it comes to is what the evaluator comes to.
-/
import Derived.Test.YtiphckeipbfbmaaGreatDoorAeFlat
namespace Go.AE
open Go Go.RowKit

/-! ### Trees -/

inductive Tr (A : Type) where
  | leaf
  | node (l : Tr A) (x : Option A) (r : Tr A)

section
variable {A : Type} {α : Type}

noncomputable def Tr.get (t : Tr A) : Nat → Option A :=
  Tr.rec (fun _ => none) (fun _ x _ gl gr i => bif Nat.beq i 0 then x else bif Nat.beq (Nat.mod i 2) 1 then gl (Nat.div i 2) else gr (Nat.sub (Nat.div i 2) 1)) t
noncomputable def Tr.single (x : Option A) : Nat → Nat → (Tr A → Option α) → Option α :=
  fun n => Nat.rec (fun _ _ => none) (fun _ ih i k => bif Nat.beq i 0 then k (.node .leaf x .leaf) else bif Nat.beq (Nat.mod i 2) 1 then ih (Nat.div i 2) fun l => k (.node l none .leaf) else ih (Nat.sub (Nat.div i 2) 1) fun r => k (.node .leaf none r)) n
noncomputable def Tr.put (x : Option A) (t : Tr A) : Nat → (Tr A → Option α) → Option α :=
  Tr.rec (fun i k => Tr.single x 64 i k) (fun l y r pl pr i k => bif Nat.beq i 0 then k (.node l x r) else bif Nat.beq (Nat.mod i 2) 1 then pl (Nat.div i 2) fun l' => k (.node l' y r) else pr (Nat.sub (Nat.div i 2) 1) fun r' => k (.node l y r')) t

theorem Tr.get_node (l r : Tr A) (x : Option A) (i : Nat) : (Tr.node l x r).get i = if i = 0 then x else if i % 2 = 1 then l.get (i / 2) else r.get (i / 2 - 1) := by
  show (bif Nat.beq i 0 then x else bif Nat.beq (Nat.mod i 2) 1 then l.get (Nat.div i 2) else r.get (Nat.sub (Nat.div i 2) 1)) = _
  by_cases h : i = 0
  · subst h; rfl
  · have h1 : Nat.beq i 0 = false := by cases i <;> first | exact absurd rfl h | rfl
    rw [h1, if_neg h]
    by_cases h2 : i % 2 = 1
    · have : Nat.beq (Nat.mod i 2) 1 = true := by rw [show Nat.mod i 2 = i % 2 from rfl, h2]; rfl
      rw [this, if_pos h2]; rfl
    · have : Nat.beq (Nat.mod i 2) 1 = false := by
        cases hb : Nat.beq (Nat.mod i 2) 1 with
        | false => rfl
        | true => exact absurd (Nat.eq_of_beq_eq_true hb) h2
      rw [this, if_neg h2]; rfl
theorem Tr.get_leaf (i : Nat) : (Tr.leaf : Tr A).get i = none := rfl

theorem bif3 {i : Nat} {x y z : Option α} {r : α} (h : (bif Nat.beq i 0 then x else bif Nat.beq (Nat.mod i 2) 1 then y else z) = some r) :
    (i = 0 ∧ x = some r) ∨ (i ≠ 0 ∧ i % 2 = 1 ∧ y = some r) ∨ (i ≠ 0 ∧ i % 2 ≠ 1 ∧ z = some r) := by
  cases h0 : Nat.beq i 0 with
  | true => rw [h0] at h; exact .inl ⟨Nat.eq_of_beq_eq_true h0, h⟩
  | false =>
    rw [h0] at h
    have hi : i ≠ 0 := Nat.ne_of_beq_eq_false h0
    cases h1 : Nat.beq (Nat.mod i 2) 1 with
    | true => rw [h1] at h; exact .inr (.inl ⟨hi, Nat.eq_of_beq_eq_true h1, h⟩)
    | false => rw [h1] at h; exact .inr (.inr ⟨hi, Nat.ne_of_beq_eq_false h1, h⟩)

theorem Tr.single_some {x : Option A} {r : α} : ∀ {n i : Nat} {k : Tr A → Option α}, Tr.single x n i k = some r → ∃ t, k t = some r ∧ ∀ j, t.get j = if j = i then x else none
  | 0, i, k, h => by cases h
  | n + 1, i, k, h => by
    rcases bif3 h with ⟨rfl, h⟩ | ⟨h0, h1, h⟩ | ⟨h0, h1, h⟩
    · refine ⟨_, h, fun j => ?_⟩
      rw [Tr.get_node]
      by_cases e : j = 0 <;> simp [e, Tr.get_leaf]
    · obtain ⟨t, h, hg⟩ := Tr.single_some (n := n) h
      refine ⟨_, h, fun j => ?_⟩
      rw [Tr.get_node, hg]
      have : Nat.div i 2 = i / 2 := rfl
      rw [this]
      by_cases e : j = i
      · subst e; simp [h0, h1]
      · rw [if_neg e]
        split
        · rfl
        · split
          · rw [if_neg (by omega)]
          · exact Tr.get_leaf _
    · obtain ⟨t, h, hg⟩ := Tr.single_some (n := n) h
      refine ⟨_, h, fun j => ?_⟩
      rw [Tr.get_node, hg]
      have : Nat.sub (Nat.div i 2) 1 = i / 2 - 1 := rfl
      rw [this]
      by_cases e : j = i
      · subst e; simp [h0, h1]
      · rw [if_neg e]
        split
        · rfl
        · split
          · exact Tr.get_leaf _
          · rw [if_neg (by omega)]
theorem Tr.put_some {x : Option A} {r : α} : ∀ {t : Tr A} {i : Nat} {k : Tr A → Option α}, Tr.put x t i k = some r → ∃ t', k t' = some r ∧ ∀ j, t'.get j = if j = i then x else t.get j
  | .leaf, i, k, h => Tr.single_some (n := 64) (show Tr.single x 64 i k = some r from h)
  | .node l y rr, i, k, h => by
    rcases bif3 h with ⟨rfl, h⟩ | ⟨h0, h1, h⟩ | ⟨h0, h1, h⟩
    · refine ⟨_, h, fun j => ?_⟩
      rw [Tr.get_node, Tr.get_node]
      by_cases e : j = 0 <;> simp [e]
    · obtain ⟨t, h, hg⟩ := Tr.put_some (t := l) h
      refine ⟨_, h, fun j => ?_⟩
      rw [Tr.get_node, Tr.get_node, hg]
      have : Nat.div i 2 = i / 2 := rfl
      rw [this]
      by_cases e : j = i
      · subst e; simp [h0, h1]
      · rw [if_neg e]
        split
        · rfl
        · split
          · rw [if_neg (by omega)]
          · rfl
    · obtain ⟨t, h, hg⟩ := Tr.put_some (t := rr) h
      refine ⟨_, h, fun j => ?_⟩
      rw [Tr.get_node, Tr.get_node, hg]
      have : Nat.sub (Nat.div i 2) 1 = i / 2 - 1 := rfl
      rw [this]
      by_cases e : j = i
      · subst e; simp [h0, h1]
      · rw [if_neg e]
        split
        · rfl
        · split
          · rfl
          · rw [if_neg (by omega)]
end

/-! ### Values worked out -/

section
variable {β : Type}
def fN (n : Nat) (k : Nat → β) : β := match n with
  | 0 => k 0
  | n + 1 => k (Nat.succ n)
def fI (i : Int) (k : Int → β) : β := match i with
  | .ofNat n => fN n fun n => k (.ofNat n)
  | .negSucc n => fN n fun n => k (.negSucc n)
def fB (b : Bool) (k : Bool → β) : β := match b with
  | true => k true
  | false => k false
def fQ (q : IntKind) (k : IntKind → β) : β := match q with
  | .i8 => k .i8 | .i16 => k .i16 | .i32 => k .i32 | .i64 => k .i64 | .u8 => k .u8 | .u16 => k .u16 | .u32 => k .u32 | .u64 => k .u64
def fO (o : Option Nat) (k : Option Nat → β) : β := match o with
  | none => k none
  | some n => fN n fun n => k (some n)
def fA (a : Addr) (k : Addr → β) : β := match a with
  | ⟨b, o, s⟩ => fN b fun b => fN o fun o => fO s fun s => k ⟨b, o, s⟩
def fL {A : Type} (f : A → (A → β) → β) : List A → (List A → β) → β
  | [], k => k []
  | x :: r, k => f x fun x => fL f r fun r => k (x :: r)
def fU (u : UInt8) (k : UInt8 → β) : β := fN u.toNat fun n => k (UInt8.ofNat n)
def fS (s : ByteArray) (k : ByteArray → β) : β := match s with
  | ⟨⟨l⟩⟩ => fL fU l fun l => k ⟨⟨l⟩⟩
def fD : Nat → Value → (Value → β) → β
  | 0, v, k => k v
  | n + 1, v, k => match v with
    | .bool b => fB b fun b => k (.bool b)
    | .int q i => fQ q fun q => fI i fun i => k (.int q i)
    | .string s => fS s fun s => k (.string s)
    | .pointer none => k (.pointer none)
    | .pointer (some a) => fA a fun a => k (.pointer (some a))
    | .slice none l c => fN l fun l => fN c fun c => k (.slice none l c)
    | .slice (some a) l c => fA a fun a => fN l fun l => fN c fun c => k (.slice (some a) l c)
    | .map r => fO r fun r => k (.map r)
    | .func f ⟨x⟩ ⟨y⟩ => fL (fD n) x fun x => fL (fD n) y fun y => k (.func f ⟨x⟩ ⟨y⟩)
    | .iface t v => fD n v fun v => k (.iface t v)
    | .agg ⟨x⟩ => fL (fD n) x fun x => k (.agg ⟨x⟩)
    | .tuple ⟨x⟩ => fL (fD n) x fun x => k (.tuple ⟨x⟩)
    | v => k v
def fV (v : Value) (k : Value → β) : β := fD 4 v k
def fP (p : Value × Value) (k : Value × Value → β) : β := match p with
  | (a, b) => fV a fun a => fV b fun b => k (a, b)
/-- A block's cells as they stand; a new block's cells worked out. -/
def fBlk (b : Blk) (k : Blk → β) : β := match b with
  | .cells l => fL (fun x k => k x) l fun l => k (.cells l)
  | .map es => fL (fun x k => k x) es fun es => k (.map es)
  | .iter s p => fN p fun p => k (.iter s p)
def fNew (b : Blk) (k : Blk → β) : β := match b with
  | .cells l => fL fV l fun l => k (.cells l)
  | .map es => fL fP es fun es => k (.map es)
  | .iter s p => fS s fun s => fN p fun p => k (.iter s p)

theorem fN_eq (n : Nat) (k : Nat → β) : fN n k = k n := by cases n <;> rfl
theorem fI_eq (i : Int) (k : Int → β) : fI i k = k i := by cases i <;> simp [fI, fN_eq]
theorem fB_eq (i : Bool) (k : Bool → β) : fB i k = k i := by cases i <;> rfl
theorem fQ_eq (i : IntKind) (k : IntKind → β) : fQ i k = k i := by cases i <;> rfl
theorem fO_eq (i : Option Nat) (k : Option Nat → β) : fO i k = k i := by cases i <;> simp [fO, fN_eq]
theorem fA_eq (i : Addr) (k : Addr → β) : fA i k = k i := by cases i; simp [fA, fN_eq, fO_eq]
theorem fL_eq {A : Type} {f : A → (A → β) → β} (h : ∀ x k, f x k = k x) : ∀ (l : List A) (k : List A → β), fL f l k = k l
  | [], k => rfl
  | x :: r, k => by simp only [fL, h, fL_eq h r]
theorem fU_eq (i : UInt8) (k : UInt8 → β) : fU i k = k i := by simp [fU, fN_eq]
theorem fS_eq (i : ByteArray) (k : ByteArray → β) : fS i k = k i := by obtain ⟨⟨l⟩⟩ := i; simp [fS, fL_eq fU_eq]
theorem fD_eq : ∀ (n : Nat) (v : Value) (k : Value → β), fD n v k = k v
  | 0, v, k => rfl
  | n + 1, v, k => by
    have ih : ∀ (v : Value) (k : Value → β), fD n v k = k v := fD_eq n
    cases v
    case pointer a => cases a <;> simp [fD, fA_eq]
    case slice a l c => cases a <;> simp [fD, fA_eq, fN_eq]
    case func f x y => obtain ⟨x⟩ := x; obtain ⟨y⟩ := y; simp [fD, fL_eq ih]
    case agg x => obtain ⟨x⟩ := x; simp [fD, fL_eq ih]
    case tuple x => obtain ⟨x⟩ := x; simp [fD, fL_eq ih]
    all_goals simp [fD, fB_eq, fQ_eq, fI_eq, fS_eq, fO_eq, ih]
theorem fV_eq (v : Value) (k : Value → β) : fV v k = k v := fD_eq 4 v k
theorem fBlk_eq (b : Blk) (k : Blk → β) : fBlk b k = k b := by
  cases b
  case cells l => simp [fBlk, fL_eq (f := fun x k => k x) (fun _ _ => rfl)]
  case map l => simp [fBlk, fL_eq (f := fun x k => k x) (fun _ _ => rfl)]
  case iter s p => simp [fBlk, fN_eq]
theorem fP_eq (p : Value × Value) (k : Value × Value → β) : fP p k = k p := by obtain ⟨a, b⟩ := p; simp [fP, fV_eq]
theorem fNew_eq (b : Blk) (k : Blk → β) : fNew b k = k b := by
  cases b <;> simp [fNew, fL_eq fV_eq, fL_eq fP_eq, fS_eq, fN_eq]
end
end Go.AE
