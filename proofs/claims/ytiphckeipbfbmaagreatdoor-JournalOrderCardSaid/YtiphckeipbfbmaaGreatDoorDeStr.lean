/-
  Parts and bytes of strings, and strings as new lists of bytes, for the symbolic evaluator.
  Conditions: the symbolic state stands for the evaluator's (St).
-/
import Derived.Test.YtiphckeipbfbmaaGreatDoorDeEq
namespace Go.DE
open Go Go.AE

/-- A byte of a string, as a number. -/
def byteAt (s : ByteArray) (i : Nat) : Int := ((s.data.toList.getD i 0).toNat : Nat)

def isStr (P : Program) (t : TypeId) : Bool := match P.underlying t with
  | some .string => true
  | _ => false
theorem isStr_some {P : Program} {t : TypeId} (h : isStr P t = true) : P.underlying t = some .string := by
  unfold isStr at h
  split at h
  · assumption
  · cases h
def strO (P : Program) (ev : Operand → DV) (op : Op) : Bool :=
  match op with
  | .slice t x _ _ mx => match ev x, mx with
    | .v (.string _), none => isStr P t
    | _, _ => false
  | .index t x ix => match ev x, ev ix with
    | .v (.string _), .v (.int _ _) => isStr P t
    | _, _ => false
  | .binOp .add _ x y _ => match ev x, ev y with
    | .v (.string _), .v (.string _) => true
    | _, _ => false
  | _ => false

section
variable {α : Type}
def strD (ev : Operand → DV) (op : Op) (k : DV → Option α) : Option α :=
  match op with
  | .slice _ x lo hi _ => match ev x with
    | .v (.string s) => highD (hi.map ev) s.size fun h => lowD (lo.map ev) h fun l => k (.v (.string (s.extract l h)))
    | _ => none
  | .index _ x ix => match ev x, ev ix with
    | .v (.string s), .v (.int _ i) => bif decide (0 ≤ i) then (bif decide (i < (s.size : Int)) then k (.v (.int .u8 (byteAt s i.toNat))) else none) else none
    | _, _ => none
  | .binOp _ _ x y _ => match ev x, ev y with
    | .v (.string a), .v (.string b) => bif decide (a.size + b.size ≤ 9223372036854775807) then k (.v (.string (a ++ b))) else none
    | _, _ => none
  | _ => none
end

section
variable {P : Program}
theorem peek_sliceBound {v : Value} {y m : Nat} {c : BoundsCode} (h : boundA v y = some m) : peek P (Instr.sliceBound v y c) = some m := by
  unfold boundA at h
  split at h <;> first | (cases h; done) | skip
  rename_i k i
  split at h <;> first | (cases h; done) | skip
  rename_i hb
  obtain rfl := Option.some.inj h
  unfold Instr.sliceBound
  rw [peek_bind']
  show peek P (if 0 ≤ i ∧ i ≤ (y : Int) then pure i.toNat else boundsPanic k i y c) = _
  rw [if_pos hb]
  rfl
theorem peek_sliceBounds {len l h m : Nat} {lo hi : Option Value} (e : boundsA len len lo hi none = some (l, h, m)) : peek P (Instr.sliceBounds false len len lo hi none) = some (l, h, m) := by
  unfold boundsA at e
  unfold Instr.sliceBounds
  cases hi with
  | none =>
    simp only at e ⊢
    cases lo with
    | none =>
      simp only [Option.some.injEq, Prod.mk.injEq] at e
      obtain ⟨rfl, rfl, rfl⟩ := e
      rfl
    | some v =>
      simp only at e
      cases hb : boundA v len with
      | none => simp [hb] at e
      | some k =>
        simp only [hb, Option.some.injEq, Prod.mk.injEq] at e
        obtain ⟨rfl, rfl, rfl⟩ := e
        simp only [peek_bind', peek_pure, peek_sliceBound hb, Option.isSome_none, Bool.false_eq_true, if_false]
  | some u =>
    simp only at e ⊢
    cases hb : boundA u len with
    | none => simp [hb] at e
    | some k =>
      simp only [hb] at e
      cases lo with
      | none =>
        simp only [Option.some.injEq, Prod.mk.injEq] at e
        obtain ⟨rfl, rfl, rfl⟩ := e
        simp only [peek_bind', peek_pure, Bool.false_eq_true, if_false, peek_sliceBound hb]
      | some v =>
        simp only at e
        cases hb2 : boundA v k with
        | none => simp [hb2] at e
        | some k2 =>
          simp only [hb2, Option.some.injEq, Prod.mk.injEq] at e
          obtain ⟨rfl, rfl, rfl⟩ := e
          simp only [peek_bind', peek_pure, Bool.false_eq_true, if_false, peek_sliceBound hb, Option.isSome_none, peek_sliceBound hb2]

variable {α : Type} {st : AE.Stat} {C : Cf} {μ : Mu} {σ : Heap} {σd : DHeap} {r : α}

theorem peekA_some {ev : Operand → Value} {o : Oper} {v : Value} (h1 : ∀ x ∈ o.op.operands, flat (ev x) = true) (h2 : isSelect o.op = false) (h3 : peek P (execOp ev o) = some (.value v)) (h4 : flat v = true) : peekA P ev o = some v := by
  unfold peekA
  rw [if_pos (by
    simp only [Bool.and_eq_true, Bool.not_eq_true']
    exact ⟨List.all_eq_true.2 fun x hx => h1 x (by simpa using hx), h2⟩), h3]
  simp only [h4, if_true]

theorem DR_v {x v : Value} (h : DR C μ (.v x) v) : v = x ∧ flat v = true := by
  cases h with
  | v _ hf => exact ⟨rfl, fl1_flat hf⟩
theorem boundD_flat {d : DV} {v : Value} {y : Nat} {k : Nat → Option α} (hd : DR C μ d v) (h : boundD d y k = some r) : flat v = true := by
  unfold boundD at h
  split at h
  · exact (DR_v hd).2
  · cases h

theorem strD_some {o : Oper} {ev : Operand → Value} {evd : Operand → DV} {k : DV → Option α} (hc : constsOk o.op = true) (hev : ∀ x ∈ o.op.operands, DR C μ (evd x) (ev x)) (hs : strO P evd o.op = true) (hx : strD evd o.op k = some r) :
    ∃ d v, DR C μ d v ∧ (∀ n m, opA P st (runF P st n m) ev o σ = some (v, σ)) ∧ k d = some r := by
  have fin : ∀ {v : Value}, peekA P ev o = some v → ∀ n m, opA P st (runF P st n m) ev o σ = some (v, σ) := fun h n m => by
    unfold opA
    rw [if_pos hc, h]
  cases hop : o.op
  all_goals rw [hop] at hs hx hev
  all_goals (first | (cases hs; done) | skip)
  case slice t x lo hi mx =>
    simp only [strO] at hs
    simp only [strD] at hx
    cases mx with
    | some m => split at hs <;> simp_all
    | none =>
      split at hx <;> first | (cases hx; done) | skip
      rename_i s he
      rw [he] at hs
      have ht := isStr_some hs
      have hdx := hev x (by simp [Op.operands])
      rw [he] at hdx
      obtain ⟨e1, e2⟩ := DR_v hdx
      have hlo : DRO C μ (lo.map evd) (lo.map ev) := by
        cases lo with
        | none => trivial
        | some y => exact hev y (by simp [Op.operands])
      have hhi : DRO C μ (hi.map evd) (hi.map ev) := by
        cases hi with
        | none => trivial
        | some y => exact hev y (by simp [Op.operands])
      have hfl : ∀ y ∈ o.op.operands, flat (ev y) = true := by
        rw [hop]
        intro y hy
        simp only [Op.operands, Option.toArray_none, Array.append_empty, Array.mem_append, List.mem_toArray, List.mem_singleton, Option.mem_toArray] at hy
        rcases hy with (rfl | hy) | hy
        · exact e2
        · subst hy
          have hd := hev y (by simp [Op.operands])
          cases hi with
          | none =>
            simp only [highD, lowD, Option.map_none, Option.map_some] at hx
            exact boundD_flat hd hx
          | some z =>
            simp only [highD, lowD, Option.map_some] at hx
            obtain ⟨m, _, _, hx⟩ := boundD_some (hev z (by simp [Op.operands])) hx
            exact boundD_flat hd hx
        · subst hy
          simp only [highD, Option.map_some] at hx
          exact boundD_flat (hev y (by simp [Op.operands])) hx
      obtain ⟨l, h, h1, h2, hk, hb⟩ := bounds_some (k := fun l h => k (.v (.string (s.extract l h)))) hlo hhi hx
      refine ⟨_, .string (s.extract l h), .v _ rfl, fin (peekA_some hfl (by rw [hop]; rfl) ?_ rfl), hk⟩
      have hpb := peek_sliceBounds (P := P) (hb s.size (Nat.le_refl _))
      unfold execOp
      rw [hop]
      simp only [Option.map_none, Instr.sliceAt, e1]
      simp only [peek_bind', peek_underlying ht, Instr.slice, Option.isSome_none, Bool.false_eq_true, if_false, hpb, peek_pure]
  case binOp op t x y yt =>
    obtain rfl : op = .add := by
      cases op <;> first | rfl | (simp [strO] at hs; done)
    simp only [strD] at hx
    split at hx <;> first | (cases hx; done) | skip
    rename_i a b he1 he2
    obtain ⟨h1, hx⟩ := dec_none hx
    have hd1 := hev x (by simp [Op.operands])
    have hd2 := hev y (by simp [Op.operands])
    rw [he1] at hd1
    rw [he2] at hd2
    obtain ⟨e1, f1⟩ := DR_v hd1
    obtain ⟨e2, f2⟩ := DR_v hd2
    have hfl : ∀ z ∈ o.op.operands, flat (ev z) = true := by
      rw [hop]
      intro z hz
      simp only [Op.operands, List.mem_toArray, List.mem_cons, List.not_mem_nil, or_false] at hz
      rcases hz with rfl | rfl
      · exact f1
      · exact f2
    refine ⟨_, .string (a ++ b), .v _ rfl, fin (peekA_some hfl (by rw [hop]; rfl) ?_ rfl), hx⟩
    unfold execOp
    rw [hop]
    simp only [e1, e2]
    have hg : peek P (eqGuard .add t x y (.string a) (.string b)) = some () := rfl
    have hb : peek P (binOp .add t (.string a) (.string b)) = some (.string (a ++ b)) := by
      show peek P (Op.stringOp .add a b) = _
      unfold Op.stringOp
      have : ¬ (((a.size + b.size : Nat) : Int) > IntKind.i64.max) := by
        show ¬ (((a.size + b.size : Nat) : Int) > 9223372036854775807)
        omega
      simp only [this, if_false]
      rfl
    simp only [peek_bind', hg, hb, peek_pure]
  case index t x ix =>
    simp only [strO] at hs
    simp only [strD] at hx
    split at hx <;> first | (cases hx; done) | skip
    rename_i s kd i he1 he2
    rw [he1, he2] at hs
    have ht := isStr_some hs
    obtain ⟨h1, hx⟩ := dec_none hx
    obtain ⟨h2, hx⟩ := dec_none hx
    have hd1 := hev x (by simp [Op.operands])
    have hd2 := hev ix (by simp [Op.operands])
    rw [he1] at hd1
    rw [he2] at hd2
    obtain ⟨e1, f1⟩ := DR_v hd1
    obtain ⟨e2, f2⟩ := DR_v hd2
    have hfl : ∀ y ∈ o.op.operands, flat (ev y) = true := by
      rw [hop]
      intro y hy
      simp only [Op.operands, List.mem_toArray, List.mem_cons, List.not_mem_nil, or_false] at hy
      rcases hy with rfl | rfl
      · exact f1
      · exact f2
    refine ⟨_, .int .u8 (byteAt s i.toNat), .v _ rfl, fin (peekA_some hfl (by rw [hop]; rfl) ?_ rfl), hx⟩
    have hlt : i.toNat < s.size := by omega
    have hb : (if 0 ≤ i then s[i.toNat]? else none) = some s[i.toNat] := by
      rw [if_pos h1]
      exact getElem?_pos s i.toNat hlt
    unfold execOp
    rw [hop]
    simp only [e1, e2]
    have hpk : peek P (Instr.index t (.string s) (.int kd i)) = some (.int .u8 (byteAt s i.toNat)) := by
      unfold Instr.index
      rw [peek_bind']
      show (match (some (kd, i) : Option (IntKind × Int)) with | some a => _ | none => none) = _
      simp only
      rw [peek_bind', peek_underlying ht]
      simp only [hb]
      have hlt2 : i.toNat < s.data.toList.length := by simpa using hlt
      have : byteAt s i.toNat = (s[i.toNat].toNat : Int) := by
        unfold byteAt
        rw [List.getD_eq_getElem?_getD, List.getElem?_eq_getElem hlt2]
        rfl
      rw [this]
      rfl
    simp only [peek_bind', hpk, peek_pure]

def convD (P : Program) (σd : DHeap) (src dst : TypeId) (x : DV) (k : DV → DHeap → Option α) : Option α :=
  match P.underlying src, P.underlying dst, x with
  | some .string, some (.slice e), .v (.string s) => match P.underlying e with
    | some (.int .u8) => bif decide (s.size ≤ 140737488355328) then k (.os σd.length 0 s.size) (σd ++ [some ⟨1, .tab s.size fun i _ => .v (.int .u8 (byteAt s i))⟩]) else none
    | _ => none
  | _, _, _ => none
theorem convD_some {src dst : TypeId} {x : DV} {xv : Value} {k : DV → DHeap → Option α} (h : St st C μ σ σd) (hx : DR C μ x xv) (hs : convD P σd src dst x k = some r) :
    ∃ v σ' μ' d σd', convA P st σ src dst xv = some (v, σ') ∧ St st C μ' σ' σd' ∧ Nx C μ σ σd C μ' σ' σd' ∧ DR C μ' d v ∧ k d σd' = some r := by
  unfold convD at hs
  split at hs <;> first | (cases hs; done) | skip
  rename_i e s h1 h2
  split at hs <;> first | (cases hs; done) | skip
  rename_i h3
  obtain ⟨hb, hs⟩ := dec_none hs
  obtain ⟨rfl, _⟩ := DR_v hx
  have hlen : (bytesA s).length = s.size := by simp [bytesA]
  obtain ⟨g1, g2⟩ := h.push (k := 1) (c := .tab s.size fun i _ => .v (.int .u8 (byteAt s i))) (l := bytesA s) (by decide) (by rw [hlen]; exact Nat.le_of_eq (Nat.mul_one _)) trivial fun i f hi hf => by
    obtain rfl : f = 0 := by omega
    have hi : i < s.data.toList.length := by simpa using (show i < s.size from hi)
    refine ⟨.int .u8 (byteAt s i), ?_, rfl, .v _ rfl⟩
    simp only [bytesA, Nat.mul_one, Nat.add_zero, List.getElem?_map, List.getElem?_eq_getElem hi, Option.map_some, byteAt, List.getD_eq_getElem?_getD, Option.getD_some]
  refine ⟨.slice (some (newB σ (bytesA s)).1) s.size (unk + 1), (newB σ (bytesA s)).2, _, _, _, ?_, g1, g2, .os _ _ _ σ.length 1 (bytesA s).length 0 _ (by simp [Mu.put]) (by decide) (.inr ⟨rfl, by simp⟩), hs⟩
  unfold convA
  simp only [h1, h2, h3]
  rw [if_pos hb]
end
end Go.DE
