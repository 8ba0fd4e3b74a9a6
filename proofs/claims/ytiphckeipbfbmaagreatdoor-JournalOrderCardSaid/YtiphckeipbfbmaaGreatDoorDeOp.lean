/-
  The operations of the symbolic evaluator: each as the evaluator does it.
  Conditions: the symbolic state stands for the evaluator's (St); the callees do what the symbolic evaluator was told of them (CallS).
-/
import Derived.Test.YtiphckeipbfbmaaGreatDoorDeApp
namespace Go.DE
open Go Go.AE

section
variable {α : Type} {st : AE.Stat} {C : Cf} {μ : Mu} {σ : Heap} {σd : DHeap} {P : Program} {r : α}

abbrev CallD (α : Type) := FuncId → List DV → DHeap → (DV → DHeap → Option α) → Option α

theorem DR.sl_inv {t : Bool} {g : Nat → Nat → DV} {k n : Nat} {v : Value} (h : DR C μ (.sl t g k n) v) :
    (∃ (a : Addr) (cap : Nat) (w : Nat → Nat → Value), v = .slice (some a) n cap ∧ CapOk n k cap ∧ 0 < k ∧ (∀ i f, i < n → f < k → C t a.block a.spot (a.off + i * k + f) = some (w i f) ∧ (w i f).oneCell' = true) ∧ ∀ i f, i < n → f < k → DR C noMu (g i f) (w i f)) ∨ (n = 0 ∧ v = .slice none 0 0) := by
  cases h
  · exact .inl ⟨_, _, _, rfl, by assumption, by assumption, by assumption, by assumption⟩
  · exact .inr ⟨rfl, rfl⟩
theorem DR.os_inv {id i len : Nat} {v : Value} (h : DR C μ (.os id i len) v) :
    ∃ b k L off cap, v = .slice (some ⟨b, off, none⟩) len cap ∧ μ id = some (b, k, L) ∧ 0 < k ∧ ((cap < unk ∧ len ≤ cap ∧ (cap = 0 ∨ off = i * k ∧ (i + cap) * k ≤ L)) ∨ cap = unk + k ∧ off = i * k) := by
  cases h
  exact ⟨_, _, _, _, _, rfl, by assumption, by assumption, by assumption⟩
theorem DR.pf_inv {t : Bool} {g : Nat → Nat → DV} {k n i f : Nat} {v : Value} (h : DR C μ (.pf t g k n i f) v) :
    ∃ (a : Addr) (w : Nat → Nat → Value), v = .pointer (some ⟨a.block, a.off + i * k + f, a.spot⟩) ∧ 0 < k ∧ 0 < n ∧ (∀ i f, i < n → f < k → C t a.block a.spot (a.off + i * k + f) = some (w i f) ∧ (w i f).oneCell' = true) ∧ ∀ i f, i < n → f < k → DR C noMu (g i f) (w i f) := by
  cases h
  rename_i a a' w hk hn h1 h2 ha
  exact ⟨a, w, by rw [ha], hk, hn, h1, h2⟩
theorem DR.po_inv {id i f : Nat} {v : Value} (h : DR C μ (.po id i f) v) : ∃ b k L, v = .pointer (some ⟨b, i * k + f, none⟩) ∧ μ id = some (b, k, L) ∧ 0 < k := by
  cases h
  rename_i b k L a' hk hm ha
  exact ⟨b, k, L, by rw [ha], hm, hk⟩

/-- Certainly not without addresses. -/
def nf1 : DV → Bool
  | .os _ _ _ => true
  | .pf _ _ _ _ _ _ => true
  | .po _ _ _ => true
  | .fn _ _ _ => true
  | _ => false
def nfD : DV → Bool
  | .agg cs => cs.any nf1
  | .tup cs => cs.any nf1
  | d => nf1 d
theorem nf1_flat {d : DV} {v : Value} (h : DR C μ d v) (hd : nf1 d = true) (n : Nat) : flatD n v = false := by
  cases h <;> first | (cases hd; done) | (cases n <;> rfl)
theorem any_flat {cs : List DV} {vs : Array Value} (h1 : cs.length = vs.size) (h2 : ∀ (i : Nat) d x, cs[i]? = some d → vs[i]? = some x → DR C μ d x) {p : DV → Bool} (hp : ∀ d x, DR C μ d x → p d = true → ∀ n, flatD n x = false) (h : cs.any p = true) (n : Nat) : vs.toList.all (flatD n) = false := by
  obtain ⟨d, hd, hpd⟩ := List.any_eq_true.1 h
  obtain ⟨i, hi⟩ := List.mem_iff_getElem?.1 hd
  have hlt : i < vs.size := by have := (List.getElem?_eq_some_iff.1 hi).1; omega
  have hx : vs[i]? = some vs[i] := Array.getElem?_eq_getElem hlt
  cases hall : vs.toList.all (flatD n) with
  | false => rfl
  | true =>
    have := List.all_eq_true.1 hall vs[i] (by simp)
    rw [hp d _ (h2 i d _ hi hx) hpd n] at this
    cases this
theorem nfD_flat {d : DV} {v : Value} (h : DR C μ d v) (hd : nfD d = true) : flat v = false := by
  cases h with
  | agg cs vs h1 h2 => exact any_flat h1 h2 (fun d x hr hn n => nf1_flat hr hn n) hd 3
  | tup cs vs h1 h2 => exact any_flat h1 h2 (fun d x hr hn n => nf1_flat hr hn n) hd 3
  | sl => cases hd
  | slnil => cases hd
  | any => cases hd
  | v => cases hd
  | os => rfl
  | pf => rfl
  | po => rfl
  | fn => rfl

/-- The number of elements of the first frozen slice among data. -/
def slN : List DV → Option Nat
  | [] => none
  | .sl _ _ _ n :: _ => some n
  | _ :: r => slN r
theorem slN_mem : ∀ {l : List DV} {n : Nat}, slN l = some n → ∃ t g k, DV.sl t g k n ∈ l
  | [], n, h => by cases h
  | d :: r, n, h => by
    cases d with
    | sl t g k m => obtain rfl := Option.some.inj h; exact ⟨t, g, k, by simp⟩
    | _ => obtain ⟨t, g, k, hm⟩ := slN_mem (l := r) h; exact ⟨t, g, k, by simp [hm]⟩
def inner : DV → List DV
  | .agg cs => cs
  | .tup cs => cs
  | d => [d]
def nonflatK (ds : List DV) (k : Option α) : Option α :=
  bif ds.any nfD then k else match slN (ds.flatMap inner) with
    | some n => bif decide (0 < n) then k else none
    | none => none
theorem sl_flat {t : Bool} {g : Nat → Nat → DV} {k n : Nat} {v : Value} (h : DR C μ (.sl t g k n) v) (hn : 0 < n) (m : Nat) : flatD m v = false := by
  cases h
  · cases m <;> rfl
  · omega
theorem nonflatK_some {ds : List DV} {k : Option α} (h : nonflatK ds k = some r) : k = some r ∧ ∀ vs, DRL C μ ds vs → ∃ v ∈ vs, flat v = false := by
  unfold nonflatK at h
  rcases bif_some h with ⟨h1, h⟩ | ⟨_, h⟩
  · refine ⟨h, fun vs hr => ?_⟩
    obtain ⟨d, hd, hn⟩ := List.any_eq_true.1 h1
    obtain ⟨i, hi⟩ := List.mem_iff_getElem?.1 hd
    obtain ⟨v, hv, hdr⟩ := hr.get hi
    exact ⟨v, List.mem_of_getElem? hv, nfD_flat hdr hn⟩
  · split at h
    · rename_i n hn
      obtain ⟨hpos, h⟩ := dec_none h
      refine ⟨h, fun vs hr => ?_⟩
      obtain ⟨t, g, k', hm⟩ := slN_mem hn
      obtain ⟨d, hd, hin⟩ := List.mem_flatMap.1 hm
      obtain ⟨i, hi⟩ := List.mem_iff_getElem?.1 hd
      obtain ⟨v, hv, hdr⟩ := hr.get hi
      refine ⟨v, List.mem_of_getElem? hv, ?_⟩
      have cell : ∀ {cs : List DV} {us : Array Value}, cs.length = us.size → (∀ (i : Nat) d x, cs[i]? = some d → us[i]? = some x → DR C μ d x) → DV.sl t g k' n ∈ cs → us.toList.all (flatD 3) = false := by
        intro cs us h1 h2 hm
        obtain ⟨j, hj⟩ := List.mem_iff_getElem?.1 hm
        have hlt : j < us.size := by have := (List.getElem?_eq_some_iff.1 hj).1; omega
        have hx : us[j]? = some us[j] := Array.getElem?_eq_getElem hlt
        cases hall : us.toList.all (flatD 3) with
        | false => rfl
        | true =>
          have := List.all_eq_true.1 hall us[j] (by simp)
          rw [sl_flat (h2 j _ _ hj hx) hpos 3] at this
          cases this
      cases hdr with
      | agg cs us h1 h2 => exact cell h1 h2 hin
      | tup cs us h1 h2 => exact cell h1 h2 hin
      | sl t' g' k2 n' a cap w hc hk h1 h2 => rfl
      | slnil t' g' k2 =>
        simp only [inner, List.mem_singleton, DV.sl.injEq] at hin
        omega
      | _ => simp [inner] at hin
    · cases h

/-- What an operation comes to. -/
def OpRes (st : AE.Stat) (C : Cf) (μ : Mu) (σ : Heap) (σd : DHeap) (F : Nat → Nat → Option (Value × Heap)) (k : DV → DHeap → Option α) (r : α) : Prop :=
  ∃ v σ' C' μ' d σd', Lim F (v, σ') ∧ St st C' μ' σ' σd' ∧ Nx C μ σ σd C' μ' σ' σd' ∧ DR C' μ' d v ∧ k d σd' = some r

theorem OpRes.same {F : Nat → Nat → Option (Value × Heap)} {k : DV → DHeap → Option α} {d : DV} {v : Value} (h : St st C μ σ σd) (hF : ∀ n m, F n m = some (v, σ)) (hd : DR C μ d v) (hk : k d σd = some r) : OpRes st C μ σ σd F k r :=
  ⟨v, σ, C, μ, d, σd, .const hF, h, .refl _ _ _ _, hd, hk⟩

/-- What is asked of the callees. -/
def CallS (P : Program) (st : AE.Stat) (call : CallD α) : Prop :=
  ∀ f args σd k r, call f args σd k = some r → ∀ C μ σ vs, St st C μ σ σd → DRL C μ args vs → OpRes st C μ σ σd (fun n m => enterA P (runF P st n m) f vs σ) k r

/-- Bounds of slices. -/
def boundD (v : DV) (y : Nat) (k : Nat → Option α) : Option α :=
  match v with
  | .v (.int _ i) => bif decide (0 ≤ i) then (bif decide (i ≤ (y : Int)) then k i.toNat else none) else none
  | _ => none
theorem boundD_some {d : DV} {v : Value} {y : Nat} {k : Nat → Option α} (hd : DR C μ d v) (h : boundD d y k = some r) : ∃ m, boundA v y = some m ∧ m ≤ y ∧ k m = some r := by
  unfold boundD at h
  split at h
  · rename_i kd i
    cases hd
    obtain ⟨h1, h⟩ := dec_none h
    obtain ⟨h2, h⟩ := dec_none h
    exact ⟨i.toNat, by simp only [boundA]; rw [if_pos ⟨h1, h2⟩], by omega, h⟩
  · cases h
theorem boundA_le {v : Value} {y m : Nat} (h : boundA v y = some m) {z : Nat} (hm : m ≤ z) : boundA v z = some m := by
  unfold boundA at h ⊢
  split at h
  · rename_i i
    split at h
    · rename_i hi
      obtain rfl := Option.some.inj h
      rw [if_pos ⟨hi.1, by omega⟩]
    · cases h
  · cases h
def highD (hi : Option DV) (len : Nat) (k : Nat → Option α) : Option α :=
  match hi with
  | none => k len
  | some d => boundD d len k
def lowD (lo : Option DV) (h : Nat) (k : Nat → Option α) : Option α :=
  match lo with
  | none => k 0
  | some d => boundD d h k
def DRO (C : Cf) (μ : Mu) (d : Option DV) (v : Option Value) : Prop :=
  match d, v with
  | none, none => True
  | some d, some v => DR C μ d v
  | _, _ => False
def highA (hiv : Option Value) (len cap : Nat) : Option Nat :=
  match hiv with
  | some v => boundA v cap
  | none => some len
theorem boundsA_eq {len cap : Nat} {lov hiv : Option Value} : boundsA len cap lov hiv none = match highA hiv len cap with
    | none => none
    | some h => match (match lov with | some v => boundA v h | none => some 0) with
      | none => none
      | some l => some (l, h, cap) := by cases hiv <;> rfl
theorem bounds_some {lo hi : Option DV} {lov hiv : Option Value} {len : Nat} {k : Nat → Nat → Option α} (hlo : DRO C μ lo lov) (hhi : DRO C μ hi hiv) (hx : highD hi len (fun h => lowD lo h (fun l => k l h)) = some r) :
    ∃ l h, l ≤ h ∧ h ≤ len ∧ k l h = some r ∧ ∀ cap, len ≤ cap → boundsA len cap lov hiv none = some (l, h, cap) := by
  have low : ∀ {m : Nat}, m ≤ len → lowD lo m (fun l => k l m) = some r → (∀ cap, len ≤ cap → highA hiv len cap = some m) →
      ∃ l h, l ≤ h ∧ h ≤ len ∧ k l h = some r ∧ ∀ cap, len ≤ cap → boundsA len cap lov hiv none = some (l, h, cap) := by
    intro m hle hl hh
    unfold lowD at hl
    unfold DRO at hlo
    cases lo with
    | none =>
      cases lov with
      | some _ => exact hlo.elim
      | none =>
        refine ⟨0, m, by omega, hle, hl, fun cap hc => ?_⟩
        rw [boundsA_eq, hh cap hc]
    | some d =>
      cases lov with
      | none => exact hlo.elim
      | some v =>
        obtain ⟨m', h1, h2, h3⟩ := boundD_some hlo hl
        refine ⟨m', m, h2, hle, h3, fun cap hc => ?_⟩
        rw [boundsA_eq, hh cap hc]
        simp only
        rw [h1]
  unfold highD at hx
  unfold DRO at hhi
  cases hi with
  | none =>
    cases hiv with
    | some _ => exact hhi.elim
    | none => exact low (Nat.le_refl _) hx fun cap hc => rfl
  | some d =>
    cases hiv with
    | none => exact hhi.elim
    | some v =>
      obtain ⟨m, h1, h2, h3⟩ := boundD_some hhi hx
      exact low h2 h3 fun cap hc => boundA_le h1 (by omega)

def sizeIs (P : Program) (e : TypeId) (k : Nat) : Bool := match sizeA P e with | some n => n == k | none => false
theorem sizeIs_some {e : TypeId} {k : Nat} (h : sizeIs P e k = true) : sizeA P e = some k := by
  unfold sizeIs at h
  split at h
  · rename_i n hn; rw [hn]; simpa using h
  · cases h

def sliceD (P : Program) (σd : DHeap) (t : TypeId) (x : DV) (lo hi : Option DV) (k : DV → Option α) : Option α :=
  match P.underlying t with
  | some (.slice e) => match x with
    | .sl tg g m n => bif sizeIs P e m then (bif decide (0 < n) then highD hi n fun h => lowD lo h fun l => k (.sl tg (fun j f => g (l + j) f) m (h - l)) else none) else none
    | .os id i len => match σd[id]? with
      | some (some blk) => bif sizeIs P e blk.k then highD hi len fun h => lowD lo h fun l => k (.os id (i + l) (h - l)) else none
      | _ => none
    | _ => none
  | _ => none
theorem sliceD_some {t : TypeId} {x : DV} {xv : Value} {lo hi : Option DV} {lov hiv : Option Value} {k : DV → Option α} (h : St st C μ σ σd) (hx : DR C μ x xv) (hlo : DRO C μ lo lov) (hhi : DRO C μ hi hiv) (hs : sliceD P σd t x lo hi k = some r) :
    ∃ d v, sliceA P t xv lov hiv none = some v ∧ DR C μ d v ∧ flat xv = false ∧ k d = some r := by
  unfold sliceD at hs
  split at hs <;> first | (cases hs; done) | skip
  rename_i e hu
  split at hs <;> first | (cases hs; done) | skip
  · rename_i tg g m n
    obtain ⟨hsz, hs⟩ := bif_none hs
    obtain ⟨hpos, hs⟩ := dec_none hs
    have hsz := sizeIs_some hsz
    obtain ⟨l, hh, hl1, hl2, hk', hb⟩ := bounds_some (C := C) (μ := μ) hlo hhi hs
    rcases hx.sl_inv with ⟨a, cap, w, rfl, hc, hk, h1, h2⟩ | ⟨h0, _⟩
    case inr => omega
    case inl =>
      have cells : ∀ (off' : Nat), (hh - l = 0 ∨ off' = a.off + l * m) → ∀ cap', CapOk (hh - l) m cap' → DR C μ (.sl tg (fun j f => g (l + j) f) m (hh - l)) (.slice (some ⟨a.block, off', a.spot⟩) (hh - l) cap') := by
        intro off' ho cap' hc'
        refine .sl _ _ _ _ _ _ (fun j f => w (l + j) f) hc' hk (fun j f hj hf => ?_) fun j f hj hf => h2 _ _ (by omega) hf
        have := h1 (l + j) f (by omega) hf
        have e : off' + j * m + f = a.off + (l + j) * m + f := by
          rcases ho with ho | ho
          · omega
          · rw [ho, Nat.add_mul]; omega
        simp only [e]
        exact this
      rcases hc with ⟨c1, c2⟩ | c1
      · refine ⟨_, .slice (some (if cap = l then a else addA a (l * m))) (hh - l) (cap - l), ?_, ?_, rfl, hk'⟩
        · unfold sliceA
          simp only [hu, hsz]
          rw [if_pos c1, hb cap c2]
          simp only
          split <;> rfl
        · split
          · exact cells a.off (.inl (by omega)) _ (.inl ⟨by omega, by omega⟩)
          · exact cells (a.off + l * m) (.inr rfl) _ (.inl ⟨by omega, by omega⟩)
      · refine ⟨_, .slice (some (addA a (l * m))) (hh - l) cap, ?_, cells _ (.inr rfl) _ (.inr c1), rfl, hk'⟩
        have c0 : ¬ cap < unk := by omega
        unfold sliceA
        simp only [hu, hsz]
        rw [if_neg c0, if_neg (by omega), hb n (Nat.le_refl _)]
        rfl
  · rename_i id i len
    split at hs <;> first | (cases hs; done) | skip
    rename_i blk hbk
    obtain ⟨hsz, hs⟩ := bif_none hs
    have hsz := sizeIs_some hsz
    obtain ⟨l, hh, hl1, hl2, hk', hb⟩ := bounds_some (C := C) (μ := μ) hlo hhi hs
    obtain ⟨b0, L0, lst, h1, h2, h3, h4, h5, h6, h7⟩ := h.own id blk hbk
    obtain ⟨b, m, L, off, cap, rfl, hm, hk, hc⟩ := hx.os_inv
    · rw [hm] at h1
      simp only [Option.some.injEq, Prod.mk.injEq] at h1
      obtain ⟨rfl, rfl, rfl⟩ := h1
      have e0 : ∀ x, i * blk.k + l * blk.k + x = (i + l) * blk.k + x := fun x => by rw [Nat.add_mul]
      rcases hc with ⟨c1, c2, c3⟩ | ⟨c1, c3⟩
      · refine ⟨_, .slice (some (if cap = l then ⟨b, off, none⟩ else addA ⟨b, off, none⟩ (l * blk.k))) (hh - l) (cap - l), ?_, ?_, rfl, hk'⟩
        · unfold sliceA
          simp only [hu, hsz]
          rw [if_pos c1, hb cap c2]
          simp only
          split <;> rfl
        · split
          · exact .os _ _ _ b blk.k L _ _ hm hk (.inl ⟨by omega, by omega, .inl (by omega)⟩)
          · refine .os _ _ _ b blk.k L _ _ hm hk (.inl ⟨by omega, by omega, ?_⟩)
            rcases c3 with c3 | ⟨c3, c4⟩
            · exact .inl (by omega)
            · refine .inr ⟨by rw [c3, Nat.add_mul], ?_⟩
              have : i + l + (cap - l) = i + cap := by omega
              rw [this]
              exact c4
      · refine ⟨_, .slice (some (addA ⟨b, off, none⟩ (l * blk.k))) (hh - l) cap, ?_, ?_, rfl, hk'⟩
        · have c0 : ¬ cap < unk := by omega
          unfold sliceA
          simp only [hu, hsz]
          rw [if_neg c0, if_neg (by omega), hb len (Nat.le_refl _)]
          rfl
        · exact .os _ _ _ b blk.k L _ _ hm hk (.inr ⟨c1, by rw [c3, Nat.add_mul]⟩)
end
end Go.DE
