/-
 The evaluator once more, for closed runs in the kernel: temporaries and blocks in trees, each value worked out before it is handed on.
 Conditions: none; what it comes to is what the evaluator comes to.

 The operations of the evaluator over a heap that is given as a function, with what they change told.
 Conditions: none; each comes to what the evaluator's operation comes to.
-/
import Derived.Test.YtfdldnomelnbgaaGreatDoorAeK
namespace Go.AE
open Go Go.RowKit

/-! ### Trees -/

inductive Tr (A : Type) where
 | leaf
 | node (l : Tr A) (x : Option A) (r : Tr A)

section
variable {A : Type} {α : Type}

noncomputable def Tr.get (t : Tr A) : Nat → Option A :=
 Tr.rec (fun _ => none) (fun _ x _ gl gr i => bif Nat.beq i 0 then x else bif Nat.beq (Nat.mod i 2) 1 then gl (Nat.div i 2) else gr (Nat.sub (Nat.div i 2) 1)) t
noncomputable def Tr.single (x : Option A) : Nat → Nat → (Tr A → Option α) → Option α :=
 fun n => Nat.rec (fun _ _ => none) (fun _ ih i k => bif Nat.beq i 0 then k (.node .leaf x .leaf) else bif Nat.beq (Nat.mod i 2) 1 then ih (Nat.div i 2) fun l => k (.node l none .leaf) else ih (Nat.sub (Nat.div i 2) 1) fun r => k (.node .leaf none r)) n
noncomputable def Tr.put (x : Option A) (t : Tr A) : Nat → (Tr A → Option α) → Option α :=
 Tr.rec (fun i k => Tr.single x 64 i k) (fun l y r pl pr i k => bif Nat.beq i 0 then k (.node l x r) else bif Nat.beq (Nat.mod i 2) 1 then pl (Nat.div i 2) fun l' => k (.node l' y r) else pr (Nat.sub (Nat.div i 2) 1) fun r' => k (.node l y r')) t

theorem Tr.get_node (l r : Tr A) (x : Option A) (i : Nat) : (Tr.node l x r).get i = if i = 0 then x else if i % 2 = 1 then l.get (i / 2) else r.get (i / 2 - 1) := by
 show (bif Nat.beq i 0 then x else bif Nat.beq (Nat.mod i 2) 1 then l.get (Nat.div i 2) else r.get (Nat.sub (Nat.div i 2) 1)) = _
 by_cases h : i = 0
 ·subst h; rfl
 ·have h1 : Nat.beq i 0 = false := by cases i <;> first | exact absurd rfl h | rfl
  rw [h1, if_neg h]
  by_cases h2 : i % 2 = 1
  ·have : Nat.beq (Nat.mod i 2) 1 = true := by rw [show Nat.mod i 2 = i % 2 from rfl, h2]; rfl
   rw [this, if_pos h2]; rfl
  ·have : Nat.beq (Nat.mod i 2) 1 = false := by
    cases hb : Nat.beq (Nat.mod i 2) 1 with
    | false => rfl
    | true => exact absurd (Nat.eq_of_beq_eq_true hb) h2
   rw [this, if_neg h2]; rfl
theorem Tr.get_leaf (i : Nat) : (Tr.leaf : Tr A).get i = none := rfl

theorem bif3 {i : Nat} {x y z : Option α} {r : α} (h : (bif Nat.beq i 0 then x else bif Nat.beq (Nat.mod i 2) 1 then y else z) = some r) :
  (i = 0 ∧ x = some r) ∨ (i ≠ 0 ∧ i % 2 = 1 ∧ y = some r) ∨ (i ≠ 0 ∧ i % 2 ≠ 1 ∧ z = some r) := by
 cases h0 : Nat.beq i 0 with
 | true => rw [h0] at h; exact .inl ⟨Nat.eq_of_beq_eq_true h0, h⟩
 | false =>
  rw [h0] at h
  have hi : i ≠ 0 := Nat.ne_of_beq_eq_false h0
  cases h1 : Nat.beq (Nat.mod i 2) 1 with
  | true => rw [h1] at h; exact .inr (.inl ⟨hi, Nat.eq_of_beq_eq_true h1, h⟩)
  | false => rw [h1] at h; exact .inr (.inr ⟨hi, Nat.ne_of_beq_eq_false h1, h⟩)

theorem Tr.single_some {x : Option A} {r : α} : ∀ {n i : Nat} {k : Tr A → Option α}, Tr.single x n i k = some r → ∃ t, k t = some r ∧ ∀ j, t.get j = if j = i then x else none
 | 0, i, k, h => by cases h
 | n + 1, i, k, h => by
  rcases bif3 h with ⟨rfl, h⟩ | ⟨h0, h1, h⟩ | ⟨h0, h1, h⟩
  ·refine ⟨_, h, fun j => ?_⟩
   rw [Tr.get_node]
   by_cases e : j = 0 <;> simp [e, Tr.get_leaf]
  ·obtain ⟨t, h, hg⟩ := Tr.single_some (n := n) h
   refine ⟨_, h, fun j => ?_⟩
   rw [Tr.get_node, hg]
   have : Nat.div i 2 = i / 2 := rfl
   rw [this]
   by_cases e : j = i
   ·subst e; simp [h0, h1]
   ·rw [if_neg e]
    split
    ·rfl
    ·split
     ·rw [if_neg (by omega)]
     ·exact Tr.get_leaf _
  ·obtain ⟨t, h, hg⟩ := Tr.single_some (n := n) h
   refine ⟨_, h, fun j => ?_⟩
   rw [Tr.get_node, hg]
   have : Nat.sub (Nat.div i 2) 1 = i / 2 - 1 := rfl
   rw [this]
   by_cases e : j = i
   ·subst e; simp [h0, h1]
   ·rw [if_neg e]
    split
    ·rfl
    ·split
     ·exact Tr.get_leaf _
     ·rw [if_neg (by omega)]
theorem Tr.put_some {x : Option A} {r : α} : ∀ {t : Tr A} {i : Nat} {k : Tr A → Option α}, Tr.put x t i k = some r → ∃ t', k t' = some r ∧ ∀ j, t'.get j = if j = i then x else t.get j
 | .leaf, i, k, h => Tr.single_some (n := 64) (show Tr.single x 64 i k = some r from h)
 | .node l y rr, i, k, h => by
  rcases bif3 h with ⟨rfl, h⟩ | ⟨h0, h1, h⟩ | ⟨h0, h1, h⟩
  ·refine ⟨_, h, fun j => ?_⟩
   rw [Tr.get_node, Tr.get_node]
   by_cases e : j = 0 <;> simp [e]
  ·obtain ⟨t, h, hg⟩ := Tr.put_some (t := l) h
   refine ⟨_, h, fun j => ?_⟩
   rw [Tr.get_node, Tr.get_node, hg]
   have : Nat.div i 2 = i / 2 := rfl
   rw [this]
   by_cases e : j = i
   ·subst e; simp [h0, h1]
   ·rw [if_neg e]
    split
    ·rfl
    ·split
     ·rw [if_neg (by omega)]
     ·rfl
  ·obtain ⟨t, h, hg⟩ := Tr.put_some (t := rr) h
   refine ⟨_, h, fun j => ?_⟩
   rw [Tr.get_node, Tr.get_node, hg]
   have : Nat.sub (Nat.div i 2) 1 = i / 2 - 1 := rfl
   rw [this]
   by_cases e : j = i
   ·subst e; simp [h0, h1]
   ·rw [if_neg e]
    split
    ·rfl
    ·split
     ·rfl
     ·rw [if_neg (by omega)]
end

/-! ### Values worked out -/

section
variable {β : Type}
def fN (n : Nat) (k : Nat → β) : β := match n with
 | 0 => k 0
 | n + 1 => k (Nat.succ n)
def fI (i : Int) (k : Int → β) : β := match i with
 | .ofNat n => fN n fun n => k (.ofNat n)
 | .negSucc n => fN n fun n => k (.negSucc n)
def fB (b : Bool) (k : Bool → β) : β := match b with
 | true => k true
 | false => k false
def fQ (q : IntKind) (k : IntKind → β) : β := match q with
 | .i8 => k .i8 | .i16 => k .i16 | .i32 => k .i32 | .i64 => k .i64 | .u8 => k .u8 | .u16 => k .u16 | .u32 => k .u32 | .u64 => k .u64
def fO (o : Option Nat) (k : Option Nat → β) : β := match o with
 | none => k none
 | some n => fN n fun n => k (some n)
def fA (a : Addr) (k : Addr → β) : β := match a with
 | ⟨b, o, s⟩ => fN b fun b => fN o fun o => fO s fun s => k ⟨b, o, s⟩
def fL {A : Type} (f : A → (A → β) → β) : List A → (List A → β) → β
 | [], k => k []
 | x :: r, k => f x fun x => fL f r fun r => k (x :: r)
def fU (u : UInt8) (k : UInt8 → β) : β := fN u.toNat fun n => k (UInt8.ofNat n)
def fS (s : ByteArray) (k : ByteArray → β) : β := match s with
 | ⟨⟨l⟩⟩ => fL fU l fun l => k ⟨⟨l⟩⟩
def fD : Nat → Value → (Value → β) → β
 | 0, v, k => k v
 | n + 1, v, k => match v with
  | .bool b => fB b fun b => k (.bool b)
  | .int q i => fQ q fun q => fI i fun i => k (.int q i)
  | .string s => fS s fun s => k (.string s)
  | .pointer none => k (.pointer none)
  | .pointer (some a) => fA a fun a => k (.pointer (some a))
  | .slice none l c => fN l fun l => fN c fun c => k (.slice none l c)
  | .slice (some a) l c => fA a fun a => fN l fun l => fN c fun c => k (.slice (some a) l c)
  | .map r => fO r fun r => k (.map r)
  | .func f ⟨x⟩ ⟨y⟩ => fL (fD n) x fun x => fL (fD n) y fun y => k (.func f ⟨x⟩ ⟨y⟩)
  | .iface t v => fD n v fun v => k (.iface t v)
  | .agg ⟨x⟩ => fL (fD n) x fun x => k (.agg ⟨x⟩)
  | .tuple ⟨x⟩ => fL (fD n) x fun x => k (.tuple ⟨x⟩)
  | v => k v
def fV (v : Value) (k : Value → β) : β := fD 4 v k
def fP (p : Value × Value) (k : Value × Value → β) : β := match p with
 | (a, b) => fV a fun a => fV b fun b => k (a, b)
def fBlk (b : Blk) (k : Blk → β) : β := match b with
 | .cells l => fL (fun x k => k x) l fun l => k (.cells l)
 | .map es => fL (fun x k => k x) es fun es => k (.map es)
 | .iter s p => fN p fun p => k (.iter s p)
 | .loop τ ps a b s p => k (.loop τ ps a b s p)
def fNew (b : Blk) (k : Blk → β) : β := match b with
 | .cells l => fL fV l fun l => k (.cells l)
 | .map es => fL fP es fun es => k (.map es)
 | .iter s p => fS s fun s => fN p fun p => k (.iter s p)
 | .loop ⟨l⟩ ps a b s p => fL fV l fun l => k (.loop ⟨l⟩ ps a b s p)

theorem fN_eq (n : Nat) (k : Nat → β) : fN n k = k n := by cases n <;> rfl
theorem fI_eq (i : Int) (k : Int → β) : fI i k = k i := by cases i <;> simp [fI, fN_eq]
theorem fB_eq (i : Bool) (k : Bool → β) : fB i k = k i := by cases i <;> rfl
theorem fQ_eq (i : IntKind) (k : IntKind → β) : fQ i k = k i := by cases i <;> rfl
theorem fO_eq (i : Option Nat) (k : Option Nat → β) : fO i k = k i := by cases i <;> simp [fO, fN_eq]
theorem fA_eq (i : Addr) (k : Addr → β) : fA i k = k i := by cases i; simp [fA, fN_eq, fO_eq]
theorem fL_eq {A : Type} {f : A → (A → β) → β} (h : ∀ x k, f x k = k x) : ∀ (l : List A) (k : List A → β), fL f l k = k l
 | [], k => rfl
 | x :: r, k => by simp only [fL, h, fL_eq h r]
theorem fU_eq (i : UInt8) (k : UInt8 → β) : fU i k = k i := by simp [fU, fN_eq]
theorem fS_eq (i : ByteArray) (k : ByteArray → β) : fS i k = k i := by obtain ⟨⟨l⟩⟩ := i; simp [fS, fL_eq fU_eq]
theorem fD_eq : ∀ (n : Nat) (v : Value) (k : Value → β), fD n v k = k v
 | 0, v, k => rfl
 | n + 1, v, k => by
  have ih : ∀ (v : Value) (k : Value → β), fD n v k = k v := fD_eq n
  cases v
  case pointer a => cases a <;> simp [fD, fA_eq]
  case slice a l c => cases a <;> simp [fD, fA_eq, fN_eq]
  case func f x y => obtain ⟨x⟩ := x; obtain ⟨y⟩ := y; simp [fD, fL_eq ih]
  case agg x => obtain ⟨x⟩ := x; simp [fD, fL_eq ih]
  case tuple x => obtain ⟨x⟩ := x; simp [fD, fL_eq ih]
  all_goals simp [fD, fB_eq, fQ_eq, fI_eq, fS_eq, fO_eq, ih]
theorem fV_eq (v : Value) (k : Value → β) : fV v k = k v := fD_eq 4 v k
theorem fBlk_eq (b : Blk) (k : Blk → β) : fBlk b k = k b := by
 cases b
 case cells l => simp [fBlk, fL_eq (f := fun x k => k x) (fun _ _ => rfl)]
 case map l => simp [fBlk, fL_eq (f := fun x k => k x) (fun _ _ => rfl)]
 case iter s p => simp [fBlk, fN_eq]
 case loop => rfl
theorem fP_eq (p : Value × Value) (k : Value × Value → β) : fP p k = k p := by obtain ⟨a, b⟩ := p; simp [fP, fV_eq]
theorem fNew_eq (b : Blk) (k : Blk → β) : fNew b k = k b := by
 cases b
 case loop τ ps a b s p => obtain ⟨l⟩ := τ; simp [fNew, fL_eq fV_eq]
 all_goals simp [fNew, fL_eq fV_eq, fL_eq fP_eq, fS_eq, fN_eq]
end
end Go.AE

namespace Go.AE
open Go Go.RowKit

inductive Ed where
 | keep
 | push (b : Blk)
 | set (i : Nat) (b : Blk)
 | grow (i : Nat) (b : Blk)
def Ed.app (σ : Heap) : Ed → Heap
 | .keep => σ
 | .push b => σ ++ [some b]
 | .set i b => σ.set i (some b)
 | .grow i b => (σ ++ [some b]).set i none
abbrev RG := Option (Value × Ed)
def RG.app (σ : Heap) (r : RG) : Option (Value × Heap) := r.map fun x => (x.1, x.2.app σ)

theorem join_cells {σ : Heap} {i : Nat} {b : Blk} : hp σ i = some b ↔ σ[i]? = some (some b) := by
 simp only [hp, Option.join_eq_some_iff]
theorem join_none {σ : Heap} {i : Nat} (h : hp σ i = none) : ∀ b, σ[i]? ≠ some (some b) := fun b e => by rw [join_cells.2 e] at h; cases h

def loadG (st : AE.Stat) (g : HF) (a : Addr) (n : Nat) : Option (List Value) :=
 match a.spot with
 | some _ => readS (st a.block) a.off n
 | none => match g a.block with
  | some (.cells l) => if a.off + n ≤ l.length then some ((l.drop a.off).take n) else none
  | _ => none
def loadVG (P : Program) (st : AE.Stat) (g : HF) (t : TypeId) (a : Addr) : Option Value :=
 match P.underlying t with
 | some d =>
  if aggDesc d then
   match sizeA P t with
   | some n => (loadG st g a n).map fun l => .agg l.toArray
   | none => none
  else match loadG st g a 1 with
   | some [v] => some v
   | _ => none
 | none => none
def storeG (g : HF) (a : Addr) (vs : List Value) : Option Ed :=
 match a.spot with
 | some _ => none
 | none => match g a.block with
  | some (.cells l) => if a.off + vs.length ≤ l.length && vs.all Value.oneCell' then some (.set a.block (.cells (l.take a.off ++ vs ++ l.drop (a.off + vs.length)))) else none
  | _ => none
def storeVG (P : Program) (g : HF) (t : TypeId) (a : Addr) (v : Value) : Option Ed :=
 match sizeA P t with
 | some n => if v.cells.size = n then storeG g a v.cells.toList else none
 | none => none
def buildSliceG (P : Program) (n : Nat) (t : TypeId) (len : Nat) (parts : List (Nat × Value)) : RG :=
 match P.underlying t with
 | some (.slice e) =>
  match sizeA P e with
  | none => none
  | some size =>
   if len * size > 2 ^ 24 ∨ len ≥ unk then none else
   match (if len * size = 0 then some #[] else (zeroA P e).map (·.cells)) with
   | none => none
   | some zero =>
    match Instr.fill (fun i => some (i * size, size)) (zerosA zero (len * size)).toArray parts with
    | none => none
    | some cells => some (.slice (some ⟨n, 0, none⟩) len len, .push (.cells cells.toList))
 | _ => none
def makeSliceG (P : Program) (n : Nat) (t : TypeId) (len cap : Value) : RG :=
 match P.underlying t, len, cap with
 | some (.slice e), .int _ l, .int _ c =>
  match P.info? e with
  | none => none
  | some i =>
   if 0 ≤ l ∧ l ≤ c ∧ c < 9223372036854775808 ∧ (i.bytes : Int) * c ≤ 281474976710656 then
    match zeroA P e with
    | none => none
    | some z => some (.slice (some ⟨n, 0, none⟩) l.toNat c.toNat, .push (.cells (zerosA z.cells (c.toNat * i.size))))
   else none
 | _, _, _ => none
def sourceG (st : AE.Stat) (g : HF) (size : Nat) (x : Value) : Option (Nat × List Value) :=
 match x with
 | .slice none 0 0 => some (0, [])
 | .slice (some a) n _ => if n * size = 0 then some (n, []) else (loadG st g a (n * size)).map fun l => (n, l)
 | .string s => some (s.size, (s.data.map fun b => Value.int .u8 b.toNat).toList)
 | _ => none
def growG (st : AE.Stat) (g : HF) (n : Nat) (i : TypeInfo) (base : Option Addr) (sLen need : Nat) (news : List Value) : Option (Value × Blk) :=
 if need * i.bytes ≤ 140737488355328 ∧ i.bytes ≠ 0 then
  match i.zero with
  | none => none
  | some z =>
   if z.cells.size ≠ i.size then none else
   match (match base with | none => some [] | some a => if sLen * i.size = 0 then some [] else loadG st g a (sLen * i.size)) with
   | none => none
   | some old => some (.slice (some ⟨n, 0, none⟩) need (unk + i.size), .cells (old ++ news))
 else none
def appendG (P : Program) (st : AE.Stat) (g : HF) (n0 : Nat) (argTypes : Array TypeId) (args : Array Value) : RG :=
 match argTypes[0]?, argTypes[1]?, args[0]?, args[1]? with
 | some sT, some xT, some (Value.slice base sLen sCap), some x =>
  match P.underlying sT, P.underlying xT with
  | some (.slice e), some xd =>
   match P.info? e with
   | none => none
   | some i =>
    match (match xd with
     | .int _ => match x with
      | .int _ m => if 0 ≤ m ∧ m < 9223372036854775808 ∧ m * i.bytes ≤ 281474976710656 then
        (if m.toNat * i.size = 0 then some (m.toNat, []) else (zeroA P e).map fun (z : Value) => (m.toNat, zerosA z.cells (m.toNat * z.cells.size))) else none
      | _ => none
     | _ => sourceG st g i.size x) with
    | none => none
    | some (n, news) =>
     if news.length ≠ n * i.size ∨ news.all Value.oneCell' = false then none
     else if sCap < unk then
      if sLen + n ≤ sCap then
       match base with
       | none => some (.slice none 0 0, .keep)
       | some a => if news.isEmpty then some (.slice (some a) (sLen + n) sCap, .keep) else (storeG g (addA a (sLen * i.size)) news).map fun ed => (.slice (some a) (sLen + n) sCap, ed)
      else (growG st g n0 i base sLen (sLen + n) news).map fun r => (r.1, .push r.2)
     else if n = 0 then some (.slice base sLen sCap, .keep)
     else if sCap ≠ unk + i.size then none
     else match base with
      | none => none
      | some a => match a.spot, g a.block with
       | none, some (.cells _) => if news.isEmpty then none else (growG st g n0 i base sLen (sLen + n) news).map fun r => (r.1, .grow a.block r.2)
       | _, _ => none
  | _, _ => none
 | _, _, _, _ => none
def copyG (P : Program) (st : AE.Stat) (g : HF) (argTypes : Array TypeId) (args : Array Value) : RG :=
 match argTypes[0]?, args[0]?, args[1]? with
 | some dT, some (Value.slice base dLen _), some src =>
  match P.underlying dT with
  | some (.slice e) =>
   match sizeA P e with
   | none => none
   | some size =>
    match (match src with
     | .slice none 0 0 => some (0, [])
     | .slice (some a) n _ => if Nat.min n dLen * size = 0 then some (Nat.min n dLen, []) else (loadG st g a (Nat.min n dLen * size)).map fun l => (Nat.min n dLen, l)
     | .string s => some (Nat.min s.size dLen, ((s.extract 0 (Nat.min s.size dLen)).data.map fun (b : UInt8) => Value.int .u8 b.toNat).toList)
     | _ => none) with
    | none => none
    | some (n, cells) =>
     match base with
     | none => some (goInt n, .keep)
     | some a => if cells.isEmpty then some (goInt n, .keep) else (storeG g a cells).map fun ed => (goInt n, ed)
  | _ => none
 | _, _, _ => none
def mapG (P : Program) (g : HF) (t : TypeId) (m : Value) : Option (TypeDesc × TypeId × List (Value × Value)) :=
 match P.underlying t with
 | some (.map kt et) => match P.underlying kt with
  | some d => if plainKey d then (match m with
   | .map none => some (d, et, [])
   | .map (some r) => match g r with
    | some (.map es) => some (d, et, es)
    | _ => none
   | _ => none) else none
  | none => none
 | _ => none
def lookupG (P : Program) (g : HF) (t : TypeId) (m k : Value) (ok : Bool) : Option Value :=
 match mapG P g t m with
 | some (d, et, es) => if flat k = false then none else match findA d k es 0 with
  | some (some (_, v)) => some (if ok then .tuple #[v, .bool true] else v)
  | some none => (zeroA P et).map fun z => if ok then .tuple #[z, .bool false] else z
  | none => none
 | none => none
def mapPutG (P : Program) (g : HF) (t : TypeId) (m k v : Value) : Option Ed :=
 match mapG P g t m, m with
 | some (d, _, es), .map (some r) => if flat k then (match findA d k es 0 with
  | some (some (i, _)) => some (.set r (.map (es.set i (k, v))))
  | some none => some (.set r (.map (es ++ [(k, v)])))
  | none => none) else none
 | _, _ => none
def convG (P : Program) (st : AE.Stat) (g : HF) (n0 : Nat) (src dst : TypeId) (x : Value) : RG :=
 match P.underlying src, P.underlying dst, x with
 | some .string, some (.slice e), .string s =>
  match P.underlying e with
  | some (.int .u8) => if s.size ≤ 140737488355328 then some (.slice (some ⟨n0, 0, none⟩) s.size (unk + 1), .push (.cells (bytesA s))) else none
  | some (.int .i32) =>
   let l := (Conv.runesFrom s s.size 0 #[]).toList
   if l.length ≤ 140737488355328 then some (.slice (some ⟨n0, 0, none⟩) l.length (unk + 1), .push (.cells l)) else none
  | _ => none
 | some (.slice e), some .string, .slice (some a) n _ =>
  match P.underlying e with
  | some (.int .u8) => match (if n = 0 then some [] else loadG st g a n) with
   | some l => (intsA .u8 l).map fun ns => (.string (ns.foldl (fun r n => r.push (UInt8.ofNat n.toNat)) ByteArray.empty), .keep)
   | none => none
  | some (.int .i32) => match (if n = 0 then some [] else loadG st g a n) with
   | some l => (intsA .i32 l).map fun ns => (.string (ns.foldl (fun r n => r ++ Utf8.encode n) ByteArray.empty), .keep)
   | none => none
  | _ => none
 | _, _, _ => none
def rangeG (P : Program) (n : Nat) (t : TypeId) (x : Value) : RG :=
 match P.underlying t, x with
 | some .string, .string s => some (.pointer (some ⟨n, 0, none⟩), .push (.iter s 0))
 | _, _ => none
def nextG (g : HF) (it : Value) (isString : Bool) : RG :=
 match it, isString with
 | .pointer (some ⟨r, 0, none⟩), true => match g r with
  | some (.iter s pos) =>
   if pos < s.size then
    some (.tuple #[.bool true, goInt pos, .int .i32 (Utf8.decode s pos).1], .set r (.iter s (pos + (Utf8.decode s pos).2)))
   else some (.tuple #[.bool false], .keep)
  | _ => none
 | _, _ => none
def builtG (P : Program) (st : AE.Stat) (ev : Operand → Value) (c : Call) (g : HF) (n : Nat) : RG :=
 match c.callee with
 | .builtin .len => match c.argTypes[0]?, (c.args.map ev)[0]? with
  | some t, some (Value.slice _ n _) => match P.underlying t with
   | some (.slice _) => some (goInt n, .keep)
   | _ => none
  | _, _ => none
 | .builtin .cap => match c.argTypes[0]?, (c.args.map ev)[0]? with
  | some t, some (Value.slice _ _ n) => match P.underlying t with
   | some (.slice _) => if n < unk then some (goInt n, .keep) else none
   | _ => none
  | _, _ => none
 | .builtin .append => appendG P st g n c.argTypes (c.args.map ev)
 | .builtin .copy => copyG P st g c.argTypes (c.args.map ev)
 | _ => none
def specG (P : Program) (st : AE.Stat) (ev : Operand → Value) (op : Op) (g : HF) (n : Nat) : RG :=
 match op with
 | .move x => some (ev x, .keep)
 | .assign x => some (ev x, .keep)
 | .pick c a b => match ev c with
  | .bool t => some (if t then ev a else ev b, .keep)
  | _ => none
 | .alloc e => (zeroA P e).map fun z => (.pointer (some ⟨n, 0, none⟩), .push (.cells z.cells.toList))
 | .box _ x => some (.pointer (some ⟨n, 0, none⟩), .push (.cells (ev x).cells.toList))
 | .build t parts => (buildA P t (parts.map fun p => (p.1, ev p.2)).toList).map (·, .keep)
 | .buildSlice t len parts => buildSliceG P n t len (parts.map fun p => (p.1, ev p.2)).toList
 | .load t a => match ev a with
  | .pointer (some a) => (loadVG P st g t a).map (·, .keep)
  | _ => none
 | .store t a x => match ev a with
  | .pointer (some a) => (storeVG P g t a (ev x)).map (undef, ·)
  | _ => none
 | .nilCheck x => match ev x with
  | .pointer (some a) => some (.pointer (some a), .keep)
  | .func (.func f) fi ca => some (.func (.func f) fi ca, .keep)
  | _ => none
 | .binOp op t x y _ => (binA P op t (ev x) (ev y)).map (·, .keep)
 | .makeFunc fn first captured => some (.func fn (first.map ev) (captured.map ev), .keep)
 | .makeSlice t l c => makeSliceG P n t (ev l) (ev c)
 | .slice t x lo hi mx => (sliceA P t (ev x) (lo.map ev) (hi.map ev) (mx.map ev)).map (·, .keep)
 | .fieldAddr s x f => (fieldAddrA P s (ev x) f).map (·, .keep)
 | .field t x f => (fieldA P t (ev x) f).map (·, .keep)
 | .indexAddr t x ix => (indexAddrA P t (ev x) (ev ix)).map (·, .keep)
 | .index t x ix => (indexA P t (ev x) (ev ix)).map (·, .keep)
 | .extract x i => match ev x with
  | .tuple vs => (vs[i]?).map (·, .keep)
  | _ => none
 | .makeMap _ r => match r with
  | none => some (.map (some n), .push (.map []))
  | some _ => none
 | .lookup t m k ok => (lookupG P g t (ev m) (ev k) ok).map (·, .keep)
 | .mapUpdate t m k x => (mapPutG P g t (ev m) (ev k) (ev x)).map (undef, ·)
 | .insert t m k x => (mapPutG P g t (ev m) (ev k) (ev x)).map (undef, ·)
 | .convert src dst x => convG P st g n src dst (ev x)
 | .range t x => rangeG P n t (ev x)
 | .next it isString => nextG g (ev it) isString
 | .call c => builtG P st ev c g n
 | _ => none

section
variable {P : Program} {st : AE.Stat} {σ : Heap}

theorem match_cells {β : Type} {i : Nat} (f : List Value → β) (d : β) : (match hp σ i with | some (.cells l) => f l | _ => d) = match σ[i]? with | some (some (.cells l)) => f l | _ => d := by
 simp only [hp]
 cases σ[i]? with
 | none => rfl
 | some o => cases o with
  | none => rfl
  | some b => cases b <;> rfl
theorem loadG_eq {a : Addr} {n : Nat} : loadG st (hp σ) a n = loadN st σ a n := by
 unfold loadG loadN
 cases a.spot with
 | some _ => rfl
 | none => exact match_cells _ _
theorem loadVG_eq {t : TypeId} {a : Addr} : loadVG P st (hp σ) t a = loadV P st σ t a := by
 unfold loadVG loadV
 simp only [loadG_eq]
 rfl
theorem storeG_eq {a : Addr} {vs : List Value} : (storeG (hp σ) a vs).map (Ed.app σ) = storeN σ a vs := by
 unfold storeG storeN
 cases a.spot with
 | some _ => rfl
 | none =>
  simp only [hp]
  cases σ[a.block]? with
  | none => rfl
  | some o => cases o with
   | none => rfl
   | some b => cases b with
    | cells l =>
     simp only [Option.join_some]
     split <;> rfl
    | map es => rfl
    | iter s p => rfl
    | loop => rfl
theorem storeVG_eq {t : TypeId} {a : Addr} {v : Value} : (storeVG P (hp σ) t a v).map (Ed.app σ) = storeV P σ t a v := by
 unfold storeVG storeV
 cases sizeA P t with
 | none => rfl
 | some n =>
  simp only
  split
  ·exact storeG_eq
  ·rfl
theorem buildSliceG_eq {t : TypeId} {len : Nat} {ps : List (Nat × Value)} : RG.app σ (buildSliceG P σ.length t len ps) = buildSliceA P σ t len ps := by
 unfold buildSliceG buildSliceA RG.app
 cases hd : P.underlying t with
 | none => rfl
 | some d =>
  cases d
  case slice e =>
   simp only
   cases hs : sizeA P e with
   | none => rfl
   | some size =>
    simp only
    by_cases hb : len * size > 2 ^ 24 ∨ len ≥ unk
    ·simp only [if_pos hb]; rfl
    ·simp only [if_neg hb]
     cases hz : (if len * size = 0 then some #[] else (zeroA P e).map (·.cells)) with
     | none => rfl
     | some zero =>
      simp only
      cases hf : Instr.fill (fun i => some (i * size, size)) (zerosA zero (len * size)).toArray ps with
      | none => rfl
      | some cells => rfl
  all_goals rfl
theorem makeSliceG_eq {t : TypeId} {l c : Value} : RG.app σ (makeSliceG P σ.length t l c) = makeSliceA P σ t l c := by
 unfold makeSliceG makeSliceA RG.app
 cases hd : P.underlying t with
 | none => rfl
 | some d =>
  cases d
  case slice e =>
   cases l
   case int ql l =>
    cases c
    case int qc c =>
     simp only
     cases hi : P.info? e with
     | none => rfl
     | some i =>
      simp only
      by_cases hb : 0 ≤ l ∧ l ≤ c ∧ c < 9223372036854775808 ∧ (i.bytes : Int) * c ≤ 281474976710656
      ·simp only [if_pos hb]
       cases hz : zeroA P e with
       | none => rfl
       | some z => rfl
      ·simp only [if_neg hb]; rfl
    all_goals rfl
   all_goals rfl
  all_goals rfl
theorem sourceG_eq {size : Nat} {x : Value} : sourceG st (hp σ) size x = sourceA st σ size x := by
 unfold sourceG sourceA
 simp only [loadG_eq]
 rfl
theorem growG_eq {i : TypeInfo} {base : Option Addr} {sLen need : Nat} {news : List Value} :
  (growG st (hp σ) σ.length i base sLen need news).map (fun r => (r.1, σ ++ [some r.2])) = growA P st σ i base sLen need news := by
 unfold growG growA
 by_cases hb : need * i.bytes ≤ 140737488355328 ∧ i.bytes ≠ 0
 ·simp only [if_pos hb]
  cases hz : i.zero with
  | none => rfl
  | some z =>
   simp only
   by_cases hs : z.cells.size ≠ i.size
   ·simp only [if_pos hs]; rfl
   ·simp only [if_neg hs, loadG_eq]
    cases base with
    | none => rfl
    | some a =>
     simp only
     cases hl : (if sLen * i.size = 0 then some [] else loadN st σ a (sLen * i.size)) with
     | none => rfl
     | some old => rfl
 ·simp only [if_neg hb]; rfl
theorem append_main {i : TypeInfo} {base : Option Addr} {sLen sCap : Nat} : ∀ src : Option (Nat × List Value), RG.app σ (match src with
     | none => none
     | some (n, news) =>
      if news.length ≠ n * i.size ∨ news.all Value.oneCell' = false then none
      else if sCap < unk then
       if sLen + n ≤ sCap then
        match base with
        | none => some (.slice none 0 0, .keep)
        | some a => if news.isEmpty then some (.slice (some a) (sLen + n) sCap, .keep) else (storeG (hp σ) (addA a (sLen * i.size)) news).map fun ed => (.slice (some a) (sLen + n) sCap, ed)
       else (growG st (hp σ) σ.length i base sLen (sLen + n) news).map fun r => (r.1, .push r.2)
      else if n = 0 then some (.slice base sLen sCap, .keep)
      else if sCap ≠ unk + i.size then none
      else match base with
       | none => none
       | some a => match a.spot, hp σ a.block with
        | none, some (.cells _) => if news.isEmpty then none else (growG st (hp σ) σ.length i base sLen (sLen + n) news).map fun r => (r.1, .grow a.block r.2)
        | _, _ => none) = (match src with
     | none => none
     | some (n, news) =>
      if news.length ≠ n * i.size ∨ news.all Value.oneCell' = false then none
      else if sCap < unk then
       if sLen + n ≤ sCap then
        match base with
        | none => some (.slice none 0 0, σ)
        | some a => if news.isEmpty then some (.slice (some a) (sLen + n) sCap, σ) else (storeN σ (addA a (sLen * i.size)) news).map fun σ' => (.slice (some a) (sLen + n) sCap, σ')
       else growA P st σ i base sLen (sLen + n) news
      else if n = 0 then some (.slice base sLen sCap, σ)
      else if sCap ≠ unk + i.size then none
      else match base with
       | none => none
       | some a => match a.spot, σ[a.block]? with
        | none, some (some (.cells _)) => if news.isEmpty then none else (growA P st σ i base sLen (sLen + n) news).map fun (r : Value × Heap) => (r.1, r.2.set a.block none)
        | _, _ => none) := by
    intro src
    cases src with
    | none => rfl
    | some x =>
    obtain ⟨n, news⟩ := x
    simp only
    by_cases hb : news.length ≠ n * i.size ∨ news.all Value.oneCell' = false
    ·simp only [if_pos hb]; rfl
    simp only [if_neg hb]
    by_cases hc : sCap < unk
    ·simp only [if_pos hc]
     by_cases hle : sLen + n ≤ sCap
     ·simp only [if_pos hle]
      cases base with
      | none => rfl
      | some a =>
       simp only
       by_cases he : news.isEmpty = true
       ·simp only [if_pos he]; rfl
       ·simp only [if_neg he, ← storeG_eq]
        unfold RG.app
        rw [Option.map_map, Option.map_map]
        rfl
     ·simp only [if_neg hle, ← growG_eq]
      unfold RG.app
      rw [Option.map_map]
      rfl
    ·simp only [if_neg hc]
     by_cases h0 : n = 0
     ·simp only [if_pos h0]; rfl
     ·simp only [if_neg h0]
      by_cases hs : sCap ≠ unk + i.size
      ·simp only [if_pos hs]; rfl
      ·simp only [if_neg hs]
       cases base with
       | none => rfl
       | some a =>
        simp only
        cases a.spot with
        | some _ => rfl
        | none =>
         simp only [← growG_eq, Option.map_map]
         simp only [hp]
         cases hb2 : σ[a.block]? with
         | none => rfl
         | some o => cases o with
          | none => rfl
          | some b => cases b with
           | cells l =>
            simp only [Option.join_some]
            by_cases he : news.isEmpty = true
            ·simp only [if_pos he]; rfl
            ·simp only [if_neg he]
             unfold RG.app
             rw [Option.map_map]
             rfl
           | map es => rfl
           | iter s p => rfl
           | loop => rfl
theorem appendG_eq {ats : Array TypeId} {args : Array Value} : RG.app σ (appendG P st (hp σ) σ.length ats args) = appendA P st σ ats args := by
 unfold appendG appendA
 cases h0 : ats[0]? with
 | none => rfl
 | some sT =>
 cases h1 : ats[1]? with
 | none => rfl
 | some xT =>
 cases h2 : args[0]? with
 | none => rfl
 | some s =>
 cases s
 case slice base sLen sCap =>
  cases h3 : args[1]? with
  | none => rfl
  | some x =>
  simp only
  cases hd : P.underlying sT with
  | none => rfl
  | some d =>
  cases d
  case slice e =>
   cases hx : P.underlying xT with
   | none => rfl
   | some xd =>
   simp only
   cases hi : P.info? e with
   | none => rfl
   | some i =>
   simp only [sourceG_eq]
   exact append_main _
  all_goals rfl
 all_goals rfl
theorem copy_main {base : Option Addr} : ∀ src : Option (Nat × List Value), RG.app σ (match src with
    | none => none
    | some (n, cells) =>
     match base with
     | none => some (goInt n, .keep)
     | some a => if cells.isEmpty then some (goInt n, .keep) else (storeG (hp σ) a cells).map fun ed => (goInt n, ed)) = (match src with
    | none => none
    | some (n, cells) =>
     match base with
     | none => some (goInt n, σ)
     | some a => if cells.isEmpty then some (goInt n, σ) else (storeN σ a cells).map fun σ' => (goInt n, σ')) := by
 intro src
 cases src with
 | none => rfl
 | some x =>
  obtain ⟨n, cells⟩ := x
  cases base with
  | none => rfl
  | some a =>
   simp only
   by_cases he : cells.isEmpty = true
   ·simp only [if_pos he]; rfl
   ·simp only [if_neg he, ← storeG_eq]
    unfold RG.app
    rw [Option.map_map, Option.map_map]
    rfl
theorem copyG_eq {ats : Array TypeId} {args : Array Value} : RG.app σ (copyG P st (hp σ) ats args) = copyA P st σ ats args := by
 unfold copyG copyA
 cases h0 : ats[0]? with
 | none => rfl
 | some dT =>
 cases h1 : args[0]? with
 | none => rfl
 | some s =>
 cases s
 case slice base dLen dCap =>
  cases h2 : args[1]? with
  | none => rfl
  | some src =>
  simp only
  cases hd : P.underlying dT with
  | none => rfl
  | some d =>
  cases d
  case slice e =>
   simp only
   cases hs : sizeA P e with
   | none => rfl
   | some size =>
    simp only [loadG_eq]
    exact copy_main _
  all_goals rfl
 all_goals rfl
theorem mapG_eq {t : TypeId} {m : Value} : mapG P (hp σ) t m = mapA P σ t m := by
 unfold mapG mapA
 cases hd : P.underlying t with
 | none => rfl
 | some d =>
 cases d
 case map kt et =>
  simp only
  cases hk : P.underlying kt with
  | none => rfl
  | some d =>
   simp only
   by_cases hp' : plainKey d = true
   ·simp only [if_pos hp']
    cases m
    case map r =>
     cases r with
     | none => rfl
     | some r =>
      simp only [hp]
      cases σ[r]? with
      | none => rfl
      | some o => cases o with
       | none => rfl
       | some b => cases b <;> rfl
    all_goals rfl
   ·simp only [if_neg hp']
 all_goals rfl
theorem lookupG_eq {t : TypeId} {m k : Value} {ok : Bool} : lookupG P (hp σ) t m k ok = lookupA P σ t m k ok := by
 unfold lookupG lookupA
 rw [mapG_eq]
 rfl
theorem mapPutG_eq {t : TypeId} {m k v : Value} : (mapPutG P (hp σ) t m k v).map (Ed.app σ) = mapPutA P σ t m k v := by
 unfold mapPutG mapPutA
 rw [mapG_eq]
 cases hm : mapA P σ t m with
 | none => rfl
 | some x =>
  obtain ⟨d, et, es⟩ := x
  cases m
  case map r =>
   cases r with
   | none => rfl
   | some r =>
    simp only
    by_cases hk : flat k = true
    ·simp only [if_pos hk]
     cases hf : findA d k es 0 with
     | none => rfl
     | some o => cases o with
      | none => rfl
      | some y => rfl
    ·simp only [if_neg hk]; rfl
  all_goals rfl
theorem conv_main {f : List Int → ByteArray} {q : IntKind} : ∀ l : Option (List Value), RG.app σ (match l with
   | some l => (intsA q l).map fun ns => (.string (f ns), .keep)
   | none => none) = (match l with
   | some l => (intsA q l).map fun ns => (.string (f ns), σ)
   | none => none) := by
 intro l
 cases l with
 | none => rfl
 | some l =>
  simp only
  unfold RG.app
  rw [Option.map_map]
  rfl
theorem convG_eq {src dst : TypeId} {x : Value} : RG.app σ (convG P st (hp σ) σ.length src dst x) = convA P st σ src dst x := by
 unfold convG convA
 cases hs : P.underlying src with
 | none => rfl
 | some ds =>
 cases hd : P.underlying dst with
 | none => cases ds <;> rfl
 | some dd =>
 cases ds
 case string =>
  cases dd
  case slice e =>
   cases x
   case string s =>
    simp only
    cases he : P.underlying e with
    | none => rfl
    | some de =>
     cases de
     case int q =>
      cases q
      case u8 =>
       simp only
       by_cases hb : s.size ≤ 140737488355328
       ·simp only [if_pos hb]; rfl
       ·simp only [if_neg hb]; rfl
      case i32 =>
       simp only
       by_cases hb : (Conv.runesFrom s s.size 0 #[]).toList.length ≤ 140737488355328
       ·simp only [if_pos hb]; rfl
       ·simp only [if_neg hb]; rfl
      all_goals rfl
     all_goals rfl
   all_goals rfl
  all_goals rfl
 case slice e =>
  cases dd
  case string =>
   cases x
   case slice a n c =>
    cases a with
    | none => rfl
    | some a =>
     simp only [loadG_eq]
     cases he : P.underlying e with
     | none => rfl
     | some de =>
      cases de
      case int q =>
       cases q
       case u8 => exact conv_main _
       case i32 => exact conv_main _
       all_goals rfl
      all_goals rfl
   all_goals rfl
  all_goals rfl
 all_goals cases dd <;> rfl
theorem rangeG_eq {t : TypeId} {x : Value} : RG.app σ (rangeG P σ.length t x) = rangeA P σ t x := by
 unfold rangeG rangeA
 cases hd : P.underlying t with
 | none => rfl
 | some d => cases d <;> cases x <;> rfl
theorem nextG_eq {it : Value} {b : Bool} : RG.app σ (nextG (hp σ) it b) = nextA σ it b := by
 unfold nextG nextA
 cases it
 case pointer a =>
  cases a with
  | none => rfl
  | some a =>
   obtain ⟨r, o, s⟩ := a
   cases o with
   | succ o => rfl
   | zero =>
    cases s with
    | some s => rfl
    | none =>
     cases b with
     | false => rfl
     | true =>
      simp only [hp]
      cases hr : σ[r]? with
      | none => rfl
      | some o => cases o with
       | none => rfl
       | some b => cases b with
        | cells l => rfl
        | map es => rfl
        | loop => rfl
        | iter s pos =>
         simp only [Option.join_some]
         by_cases hlt : pos < s.size
         ·simp only [if_pos hlt]; rfl
         ·simp only [if_neg hlt]; rfl
 all_goals rfl
theorem keep_map {s : Option Value} : RG.app σ (s.map (·, .keep)) = s.map (·, σ) := by cases s <;> rfl
theorem undef_map {s : Option Ed} : RG.app σ (s.map (undef, ·)) = (s.map (Ed.app σ)).map (undef, ·) := by cases s <;> rfl

def isFnCall : Op → Bool
 | .call c => match c.callee with
  | .builtin _ => false
  | _ => true
 | _ => false
theorem builtG_eq {call : CallA} {ev : Operand → Value} {c : Call} (h : isFnCall (.call c) = false) : RG.app σ (builtG P st ev c (hp σ) σ.length) = callA P st call ev c σ := by
 unfold builtG callA
 cases hc : c.callee with
 | value f => simp [isFnCall, hc] at h
 | invoke r m => simp [isFnCall, hc] at h
 | builtin b =>
  cases b
  case append => exact appendG_eq
  case copy => exact copyG_eq
  case len =>
   simp only
   cases h0 : c.argTypes[0]? with
   | none => rfl
   | some t =>
    cases h1 : (c.args.map ev)[0]? with
    | none => rfl
    | some x =>
     cases x
     case slice a n cp =>
      simp only
      cases hd : P.underlying t with
      | none => rfl
      | some d => cases d <;> rfl
     all_goals rfl
  case cap =>
   simp only
   cases h0 : c.argTypes[0]? with
   | none => rfl
   | some t =>
    cases h1 : (c.args.map ev)[0]? with
    | none => rfl
    | some x =>
     cases x
     case slice a n cp =>
      simp only
      cases hd : P.underlying t with
      | none => rfl
      | some d =>
       cases d
       case slice e =>
        simp only
        by_cases hb : cp < unk
        ·simp only [if_pos hb]; rfl
        ·simp only [if_neg hb]; rfl
       all_goals rfl
     all_goals rfl
  all_goals rfl
theorem specG_eq {call : CallA} {ev : Operand → Value} {op : Op} (h : isFnCall op = false) : RG.app σ (specG P st ev op (hp σ) σ.length) = specA P st call ev op σ := by
 cases op <;> simp only [specG, specA]
 case move => rfl
 case assign => rfl
 case pick c a b => cases ev c <;> rfl
 case alloc e => cases zeroA P e <;> rfl
 case box => rfl
 case build => exact keep_map
 case buildSlice => exact buildSliceG_eq
 case load t a =>
  cases ev a
  case pointer a =>
   cases a with
   | none => rfl
   | some a => simp only [loadVG_eq]; exact keep_map
  all_goals rfl
 case store t a x =>
  cases ev a
  case pointer a =>
   cases a with
   | none => rfl
   | some a => simp only [undef_map, storeVG_eq]
  all_goals rfl
 case nilCheck x =>
  cases ev x
  case pointer a => cases a <;> rfl
  case func f a b => cases f <;> rfl
  all_goals rfl
 case binOp => exact keep_map
 case makeFunc => rfl
 case makeSlice => exact makeSliceG_eq
 case slice => exact keep_map
 case fieldAddr => exact keep_map
 case field => exact keep_map
 case indexAddr => exact keep_map
 case index => exact keep_map
 case extract x i =>
  cases ev x
  case tuple vs => exact keep_map
  all_goals rfl
 case makeMap t r => cases r <;> rfl
 case lookup => simp only [lookupG_eq]; exact keep_map
 case mapUpdate => simp only [undef_map, mapPutG_eq]
 case insert => simp only [undef_map, mapPutG_eq]
 case convert => exact convG_eq
 case range => exact rangeG_eq
 case next => exact nextG_eq
 case call c => exact builtG_eq h
 all_goals rfl
end
end Go.AE
