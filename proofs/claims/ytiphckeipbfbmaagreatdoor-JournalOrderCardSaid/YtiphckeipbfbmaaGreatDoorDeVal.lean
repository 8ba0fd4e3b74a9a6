/-
  Data as the symbolic evaluator sees them: numbers and strings, slices by their contents, slices and pointers into blocks of one's own; and how they stand to the evaluator's values.
  Conditions: none; definitions and lemmas.
-/
import Derived.Test.YtiphckeipbfbmaaGreatDoorAeFlat
namespace Go.DE
open Go Go.AE

inductive DV where
  | v (x : Value)
  | agg (cs : List DV)
  | tup (cs : List DV)
  | sl (t : Bool) (g : Nat → Nat → DV) (k n : Nat)
  | os (id i len : Nat)
  | pf (t : Bool) (g : Nat → Nat → DV) (k n i f : Nat)
  | po (id i f : Nat)
  | fn (f : Fn) (a b : List DV)
  | any

/-- What is known of cells that nothing writes to: those that were there (false), those that are new (true). -/
abbrev Cf := Bool → Nat → Option Nat → Nat → Option Value
/-- A block of one's own: the evaluator's block, the size of an element, the number of cells. -/
abbrev Mu := Nat → Option (Nat × Nat × Nat)

def fl1 : Value → Bool
  | .bool _ => true
  | .int _ _ => true
  | .string _ => true
  | .pointer none => true
  | .slice none 0 0 => true
  | .map none => true
  | .nilFunc => true
  | .nilIface => true
  | _ => false

theorem fl1_flat {x : Value} (h : fl1 x = true) : flat x = true := by
  unfold fl1 at h
  split at h <;> first | rfl | cases h
theorem fl1_flatD {x : Value} (h : fl1 x = true) (n : Nat) : flatD (n + 1) x = true := by
  unfold fl1 at h
  split at h <;> first | rfl | cases h
theorem fl1_one {x : Value} (h : fl1 x = true) : x.oneCell' = true := by
  unfold fl1 at h
  split at h <;> first | rfl | cases h
theorem fl1_cells {x : Value} (h : fl1 x = true) : x.cells = #[x] := by
  unfold fl1 at h
  split at h <;> first | rfl | cases h
theorem one_cells {x : Value} (h : x.oneCell' = true) : x.cells = #[x] := by
  cases x <;> first | rfl | cases h

def CapOk (n k cap : Nat) : Prop := (cap < unk ∧ n ≤ cap) ∨ cap = unk + k

def noMu : Mu := fun _ => none

inductive DR (C : Cf) : Mu → DV → Value → Prop
  | v {μ : Mu} (x : Value) (h : fl1 x = true) : DR C μ (.v x) x
  | agg {μ : Mu} (cs : List DV) (vs : Array Value) (h1 : cs.length = vs.size) (h2 : ∀ (i : Nat) d x, cs[i]? = some d → vs[i]? = some x → DR C μ d x) : DR C μ (.agg cs) (.agg vs)
  | tup {μ : Mu} (cs : List DV) (vs : Array Value) (h1 : cs.length = vs.size) (h2 : ∀ (i : Nat) d x, cs[i]? = some d → vs[i]? = some x → DR C μ d x) : DR C μ (.tup cs) (.tuple vs)
  | sl {μ : Mu} (t : Bool) (g : Nat → Nat → DV) (k n : Nat) (a : Addr) (cap : Nat) (w : Nat → Nat → Value) (hc : CapOk n k cap) (hk : 0 < k)
      (h1 : ∀ i f, i < n → f < k → C t a.block a.spot (a.off + i * k + f) = some (w i f) ∧ (w i f).oneCell' = true)
      (h2 : ∀ i f, i < n → f < k → DR C noMu (g i f) (w i f)) : DR C μ (.sl t g k n) (.slice (some a) n cap)
  | slnil {μ : Mu} (t : Bool) (g : Nat → Nat → DV) (k : Nat) : DR C μ (.sl t g k 0) (.slice none 0 0)
  | os {μ : Mu} (id i len b k L off cap : Nat) (hm : μ id = some (b, k, L)) (hk : 0 < k)
      (hc : (cap < unk ∧ len ≤ cap ∧ (cap = 0 ∨ off = i * k ∧ (i + cap) * k ≤ L)) ∨ cap = unk + k ∧ off = i * k) : DR C μ (.os id i len) (.slice (some ⟨b, off, none⟩) len cap)
  | pf {μ : Mu} (t : Bool) (g : Nat → Nat → DV) (k n i f : Nat) (a a' : Addr) (w : Nat → Nat → Value) (hk : 0 < k) (hn : 0 < n) (ha : a' = ⟨a.block, a.off + i * k + f, a.spot⟩)
      (h1 : ∀ i f, i < n → f < k → C t a.block a.spot (a.off + i * k + f) = some (w i f) ∧ (w i f).oneCell' = true)
      (h2 : ∀ i f, i < n → f < k → DR C noMu (g i f) (w i f)) : DR C μ (.pf t g k n i f) (.pointer (some a'))
  | po {μ : Mu} (id i f b k L : Nat) (a' : Addr) (hm : μ id = some (b, k, L)) (hk : 0 < k) (ha : a' = ⟨b, i * k + f, none⟩) : DR C μ (.po id i f) (.pointer (some a'))
  | fn {μ : Mu} (f : Fn) (a b : List DV) (x y : Array Value) (h1 : a.length = x.size) (h2 : b.length = y.size)
      (h3 : ∀ (i : Nat) d x', a[i]? = some d → x[i]? = some x' → DR C μ d x') (h4 : ∀ (i : Nat) d x', b[i]? = some d → y[i]? = some x' → DR C μ d x') : DR C μ (.fn f a b) (.func f x y)
  | any {μ : Mu} (x : Value) : DR C μ .any x

def Cf.le (C C' : Cf) : Prop := ∀ t b s o v, C t b s o = some v → C' t b s o = some v
def Mu.le (μ μ' : Mu) : Prop := ∀ id x, μ id = some x → μ' id = some x
theorem Cf.le_refl (C : Cf) : C.le C := fun _ _ _ _ _ h => h
theorem Cf.le_trans {C C1 C2 : Cf} (h : C.le C1) (k : C1.le C2) : C.le C2 := fun t b s o v x => k t b s o v (h t b s o v x)
theorem Mu.le_refl (μ : Mu) : μ.le μ := fun _ _ h => h
theorem Mu.le_trans {μ μ1 μ2 : Mu} (h : μ.le μ1) (k : μ1.le μ2) : μ.le μ2 := fun id x y => k id x (h id x y)

theorem DR.mono {C C' : Cf} {μ μ' : Mu} (hC : C.le C') (hμ : μ.le μ') {d : DV} {x : Value} (h : DR C μ d x) : DR C' μ' d x := by
  induction h generalizing μ' with
  | v x h => exact .v x h
  | agg cs vs h1 h2 ih => exact .agg cs vs h1 fun i d x hd hx => ih i d x hd hx hμ
  | tup cs vs h1 h2 ih => exact .tup cs vs h1 fun i d x hd hx => ih i d x hd hx hμ
  | sl t g k n a cap w hc hk h1 h2 ih => exact .sl t g k n a cap w hc hk (fun i f hi hf => ⟨hC _ _ _ _ _ (h1 i f hi hf).1, (h1 i f hi hf).2⟩) fun i f hi hf => ih i f hi hf (Mu.le_refl _)
  | slnil t g k => exact .slnil t g k
  | os id i len b k L off cap hm hk hc => exact .os id i len b k L off cap (hμ _ _ hm) hk hc
  | pf t g k n i f a a' w hk hn ha h1 h2 ih => exact .pf t g k n i f a a' w hk hn ha (fun i f hi hf => ⟨hC _ _ _ _ _ (h1 i f hi hf).1, (h1 i f hi hf).2⟩) fun i f hi hf => ih i f hi hf (Mu.le_refl _)
  | po id i f b k L a' hm hk ha => exact .po id i f b k L a' (hμ _ _ hm) hk ha
  | fn f a b x y h1 h2 h3 h4 ih3 ih4 => exact .fn f a b x y h1 h2 (fun i d x hd hx => ih3 i d x hd hx hμ) fun i d x hd hx => ih4 i d x hd hx hμ
  | any x => exact .any x
theorem DR.bare {C : Cf} {μ : Mu} {d : DV} {x : Value} (h : DR C noMu d x) : DR C μ d x := h.mono (Cf.le_refl _) fun _ _ e => by simp [noMu] at e

/-- Lists of data. -/
def DRL (C : Cf) (μ : Mu) (ds : List DV) (xs : List Value) : Prop := ds.length = xs.length ∧ ∀ (i : Nat) d x, ds[i]? = some d → xs[i]? = some x → DR C μ d x
theorem DRL.nil (C : Cf) (μ : Mu) : DRL C μ [] [] := ⟨rfl, fun i d x h => by simp at h⟩
theorem DRL.cons {C : Cf} {μ : Mu} {d : DV} {x : Value} {ds : List DV} {xs : List Value} (h : DR C μ d x) (hl : DRL C μ ds xs) : DRL C μ (d :: ds) (x :: xs) := by
  refine ⟨by simp [hl.1], fun i e y he hy => ?_⟩
  cases i with
  | zero => simp at he hy; subst he; subst hy; exact h
  | succ i => exact hl.2 i e y (by simpa using he) (by simpa using hy)
theorem DRL.cons_inv {C : Cf} {μ : Mu} {d : DV} {ds : List DV} {xs : List Value} (h : DRL C μ (d :: ds) xs) : ∃ x ys, xs = x :: ys ∧ DR C μ d x ∧ DRL C μ ds ys := by
  cases xs with
  | nil => simp [DRL] at h
  | cons x ys => exact ⟨x, ys, rfl, h.2 0 _ _ rfl rfl, by simpa using h.1, fun i e y he hy => h.2 (i + 1) e y (by simpa using he) (by simpa using hy)⟩
theorem DRL.nil_inv {C : Cf} {μ : Mu} {xs : List Value} (h : DRL C μ [] xs) : xs = [] := List.eq_nil_of_length_eq_zero h.1.symm
theorem DRL.mono {C C' : Cf} {μ μ' : Mu} (hC : C.le C') (hμ : μ.le μ') {ds : List DV} {xs : List Value} (h : DRL C μ ds xs) : DRL C' μ' ds xs := ⟨h.1, fun i d x a b => (h.2 i d x a b).mono hC hμ⟩
theorem DRL.append {C : Cf} {μ : Mu} {a b : List DV} {x y : List Value} (h : DRL C μ a x) (k : DRL C μ b y) : DRL C μ (a ++ b) (x ++ y) := by
  induction a generalizing x with
  | nil => obtain rfl := h.nil_inv; exact k
  | cons d a ih => obtain ⟨u, us, rfl, h1, h2⟩ := h.cons_inv; exact .cons h1 (ih h2)
theorem DRL.get {C : Cf} {μ : Mu} {ds : List DV} {xs : List Value} (h : DRL C μ ds xs) {i : Nat} {d : DV} (hd : ds[i]? = some d) : ∃ x, xs[i]? = some x ∧ DR C μ d x := by
  have hi : i < xs.length := h.1 ▸ (List.getElem?_eq_some_iff.1 hd).1
  exact ⟨_, List.getElem?_eq_getElem hi, h.2 i _ _ hd (List.getElem?_eq_getElem hi)⟩
theorem DRL.getD {C : Cf} {μ : Mu} {ds : List DV} {xs : List Value} (h : DRL C μ ds xs) (i : Nat) (u : Value) : DR C μ (ds.getD i .any) (xs.getD i u) := by
  cases hd : ds[i]? with
  | none => rw [List.getD_eq_getElem?_getD, hd]; exact .any _
  | some d =>
    obtain ⟨x, hx, hr⟩ := h.get hd
    rw [List.getD_eq_getElem?_getD, List.getD_eq_getElem?_getD, hd, hx]
    exact hr
theorem DRL.set {C : Cf} {μ : Mu} {ds : List DV} {xs : List Value} (h : DRL C μ ds xs) (i : Nat) {d : DV} {x : Value} (hd : DR C μ d x) : DRL C μ (ds.set i d) (xs.set i x) := by
  refine ⟨by simp [h.1], fun j e y he hy => ?_⟩
  rw [List.getElem?_set] at he hy
  split at he
  · rename_i hij
    subst hij
    simp only [if_true] at hy
    split at he
    · split at hy
      · simp only [Option.some.injEq] at he hy; subst he; subst hy; exact hd
      · cases hy
    · cases he
  · rename_i hij
    rw [if_neg hij] at hy
    exact h.2 j e y he hy

/-- Data without addresses, as a value. -/
def isV : DV → Bool
  | .v _ => true
  | _ => false
def val1 : DV → Value
  | .v x => x
  | _ => undef
def isV2 : DV → Bool
  | .v _ => true
  | .agg cs => cs.all isV
  | _ => false
def val2 : DV → Value
  | .v x => x
  | .agg cs => .agg (cs.map val1).toArray
  | _ => undef
def flD : DV → Bool
  | .v _ => true
  | .agg cs => cs.all isV
  | .tup cs => cs.all isV2
  | _ => false
def valD : DV → Value
  | .v x => x
  | .agg cs => .agg (cs.map val1).toArray
  | .tup cs => .tuple (cs.map val2).toArray
  | _ => undef

theorem isV_val {C : Cf} {μ : Mu} {d : DV} {x : Value} (h : DR C μ d x) (hv : isV d = true) : x = val1 d ∧ fl1 x = true := by
  cases h <;> first | exact ⟨rfl, by assumption⟩ | cases hv
theorem arr_ext {cs : List DV} {vs : Array Value} {f : DV → Value} (h1 : cs.length = vs.size) (h : ∀ (i : Nat) d x, cs[i]? = some d → vs[i]? = some x → x = f d) : vs = (cs.map f).toArray := by
  apply Array.ext_getElem?
  intro i
  simp only [List.getElem?_toArray, List.getElem?_map]
  cases hc : cs[i]? with
  | none =>
    rw [List.getElem?_eq_none_iff] at hc
    simp only [Option.map_none]
    rw [Array.getElem?_eq_none_iff]
    omega
  | some d =>
    have hi := (List.getElem?_eq_some_iff.1 hc).1
    have hx : vs[i]? = some (vs[i]'(by omega)) := Array.getElem?_eq_getElem (by omega)
    rw [hx]
    simp only [Option.map_some, Option.some.injEq]
    exact h i d _ hc hx
theorem isV2_val {C : Cf} {μ : Mu} {d : DV} {x : Value} (h : DR C μ d x) (hv : isV2 d = true) : x = val2 d ∧ flatD 3 x = true := by
  cases h <;> first | (cases hv; done) | skip
  case v h => exact ⟨rfl, fl1_flatD h _⟩
  case agg cs vs h1 h2 =>
    have hall : ∀ c ∈ cs, isV c = true := by simpa [isV2] using hv
    have he := arr_ext (f := val1) h1 fun i d x hd hx => (isV_val (h2 i d x hd hx) (hall _ (List.mem_of_getElem? hd))).1
    refine ⟨by rw [he]; rfl, ?_⟩
    refine List.all_eq_true.2 fun y hy => ?_
    obtain ⟨i, hi⟩ := List.mem_iff_getElem?.1 hy
    have hi' : vs[i]? = some y := by simpa using hi
    have hlt : i < cs.length := by have := (Array.getElem?_eq_some_iff.1 hi').1; omega
    have := h2 i _ y (List.getElem?_eq_getElem hlt) hi'
    exact fl1_flatD (isV_val this (hall _ (List.getElem_mem hlt))).2 _
theorem flD_val {C : Cf} {μ : Mu} {d : DV} {x : Value} (h : DR C μ d x) (hv : flD d = true) : x = valD d ∧ flat x = true := by
  cases h <;> first | (cases hv; done) | skip
  case v h => exact ⟨rfl, fl1_flatD h _⟩
  case agg cs vs h1 h2 =>
    have hall : ∀ c ∈ cs, isV c = true := by simpa [flD] using hv
    have he := arr_ext (f := val1) h1 fun i d x hd hx => (isV_val (h2 i d x hd hx) (hall _ (List.mem_of_getElem? hd))).1
    refine ⟨by rw [he]; rfl, ?_⟩
    refine List.all_eq_true.2 fun y hy => ?_
    obtain ⟨i, hi⟩ := List.mem_iff_getElem?.1 hy
    have hi' : vs[i]? = some y := by simpa using hi
    have hlt : i < cs.length := by have := (Array.getElem?_eq_some_iff.1 hi').1; omega
    have := h2 i _ y (List.getElem?_eq_getElem hlt) hi'
    exact fl1_flatD (isV_val this (hall _ (List.getElem_mem hlt))).2 _
  case tup cs vs h1 h2 =>
    have hall : ∀ c ∈ cs, isV2 c = true := by simpa [flD] using hv
    have he := arr_ext (f := val2) h1 fun i d x hd hx => (isV2_val (h2 i d x hd hx) (hall _ (List.mem_of_getElem? hd))).1
    refine ⟨by rw [he]; rfl, ?_⟩
    refine List.all_eq_true.2 fun y hy => ?_
    obtain ⟨i, hi⟩ := List.mem_iff_getElem?.1 hy
    have hi' : vs[i]? = some y := by simpa using hi
    have hlt : i < cs.length := by have := (Array.getElem?_eq_some_iff.1 hi').1; omega
    have := h2 i _ y (List.getElem?_eq_getElem hlt) hi'
    exact (isV2_val this (hall _ (List.getElem_mem hlt))).2

/-- A value without addresses, as data. -/
def of1 (x : Value) : DV := .v x
def ok2 : Value → Bool
  | .agg cs => cs.toList.all fl1
  | x => fl1 x
def of2 : Value → DV
  | .agg cs => .agg (cs.toList.map of1)
  | x => .v x
def okV : Value → Bool
  | .agg cs => cs.toList.all fl1
  | .tuple cs => cs.toList.all ok2
  | x => fl1 x
def ofV : Value → DV
  | .agg cs => .agg (cs.toList.map of1)
  | .tuple cs => .tup (cs.toList.map of2)
  | x => .v x
theorem of_agg {C : Cf} {μ : Mu} {f : Value → DV} {vs : Array Value} (h : ∀ x ∈ vs.toList, DR C μ (f x) x) (i : Nat) (d : DV) (x : Value) (hd : (vs.toList.map f)[i]? = some d) (hx : vs[i]? = some x) : DR C μ d x := by
  rw [List.getElem?_map] at hd
  have : vs.toList[i]? = some x := by simpa using hx
  rw [this] at hd
  simp only [Option.map_some, Option.some.injEq] at hd
  subst hd
  exact h x (List.mem_of_getElem? this)
theorem ok2_DR {C : Cf} {μ : Mu} {x : Value} (h : ok2 x = true) : DR C μ (of2 x) x := by
  cases x
  case agg cs =>
    have h : ∀ x ∈ cs.toList, fl1 x = true := List.all_eq_true.1 h
    exact .agg _ _ (by simp) (of_agg (f := of1) fun x hx => .v x (h x hx))
  all_goals exact .v _ h
theorem okV_DR {C : Cf} {μ : Mu} {x : Value} (h : okV x = true) : DR C μ (ofV x) x := by
  cases x
  case agg cs =>
    have h : ∀ x ∈ cs.toList, fl1 x = true := List.all_eq_true.1 h
    exact .agg _ _ (by simp) (of_agg (f := of1) fun x hx => .v x (h x hx))
  case tuple cs =>
    have h : ∀ x ∈ cs.toList, ok2 x = true := List.all_eq_true.1 h
    exact .tup _ _ (by simp) (of_agg (f := of2) fun x hx => ok2_DR (h x hx))
  all_goals exact .v _ h
theorem ok2_flat {x : Value} (h : ok2 x = true) : flatD 3 x = true := by
  cases x
  case agg cs =>
    have h : ∀ x ∈ cs.toList, fl1 x = true := List.all_eq_true.1 h
    exact List.all_eq_true.2 fun x hx => fl1_flatD (h x hx) _
  all_goals (simp only [ok2] at h; exact fl1_flatD h _)
theorem okV_flat {x : Value} (h : okV x = true) : flat x = true := by
  cases x
  case agg cs =>
    have h : ∀ x ∈ cs.toList, fl1 x = true := List.all_eq_true.1 h
    exact List.all_eq_true.2 fun x hx => fl1_flatD (h x hx) _
  case tuple cs =>
    have h : ∀ x ∈ cs.toList, ok2 x = true := List.all_eq_true.1 h
    exact List.all_eq_true.2 fun x hx => ok2_flat (h x hx)
  all_goals (simp only [okV] at h; exact fl1_flatD h _)

/-- The cells of a block of one's own, element by element. -/
inductive DC where
  | lst (l : List (List DV))
  | tab (n : Nat) (g : Nat → Nat → DV)
  | upd (c : DC) (i f : Nat) (v : DV)
  | app (c d : DC)
  | pre (c : DC) (m : Nat)
def DC.n : DC → Nat
  | .lst l => l.length
  | .tab n _ => n
  | .upd c _ _ _ => c.n
  | .app c d => c.n + d.n
  | .pre _ m => m
def DC.get : DC → Nat → Nat → DV
  | .lst l, i, f => (l.getD i []).getD f .any
  | .tab _ g, i, f => g i f
  | .upd c j e v, i, f => if i = j ∧ f = e then v else c.get i f
  | .app c d, i, f => if i < c.n then c.get i f else d.get (i - c.n) f
  | .pre c _, i, f => c.get i f
def DC.good : DC → Prop
  | .lst _ => True
  | .tab _ _ => True
  | .upd c _ _ _ => c.good
  | .app c d => c.good ∧ d.good
  | .pre c m => c.good ∧ m ≤ c.n

section
variable {α : Type}
def atD : List DV → Nat → (DV → Option α) → Option α
  | [], _, _ => none
  | v :: r, i, k => bif decide (i = 0) then k v else atD r (i - 1) k
def atE : List (List DV) → Nat → Nat → (DV → Option α) → Option α
  | [], _, _, _ => none
  | l :: r, i, f, k => bif decide (i = 0) then atD l f k else atE r (i - 1) f k
def DC.at : DC → Nat → Nat → (DV → Option α) → Option α
  | .lst l, i, f, k => atE l i f k
  | .tab n g, i, f, k => bif decide (i < n) then k (g i f) else none
  | .upd c j e v, i, f, k => bif decide (i = j) then (bif decide (f = e) then (bif decide (j < c.n) then k v else none) else c.at i f k) else c.at i f k
  | .app c d, i, f, k => bif decide (i < c.n) then c.at i f k else d.at (i - c.n) f k
  | .pre c m, i, f, k => bif decide (i < m) then c.at i f k else none

theorem bif_some {b : Bool} {x y : Option α} {r : α} (h : (bif b then x else y) = some r) : (b = true ∧ x = some r) ∨ (b = false ∧ y = some r) := by
  cases b
  · exact .inr ⟨rfl, h⟩
  · exact .inl ⟨rfl, h⟩
theorem bif_none {b : Bool} {x : Option α} {r : α} (h : (bif b then x else none) = some r) : b = true ∧ x = some r := by
  cases b
  · cases h
  · exact ⟨rfl, h⟩
theorem dec_none {p : Prop} [Decidable p] {x : Option α} {r : α} (h : (bif decide p then x else none) = some r) : p ∧ x = some r := by
  obtain ⟨h1, h2⟩ := bif_none h
  exact ⟨of_decide_eq_true h1, h2⟩
theorem dec_some {p : Prop} [Decidable p] {x y : Option α} {r : α} (h : (bif decide p then x else y) = some r) : (p ∧ x = some r) ∨ (¬ p ∧ y = some r) := by
  rcases bif_some h with ⟨h1, h2⟩ | ⟨h1, h2⟩
  · exact .inl ⟨of_decide_eq_true h1, h2⟩
  · exact .inr ⟨of_decide_eq_false h1, h2⟩

theorem atD_some {k : DV → Option α} {r : α} : ∀ {l : List DV} {i : Nat}, atD l i k = some r → i < l.length ∧ k (l.getD i .any) = some r
  | [], i, h => by simp [atD] at h
  | v :: l, i, h => by
    rcases dec_some h with ⟨rfl, h⟩ | ⟨hi, h⟩
    · exact ⟨by simp, h⟩
    · obtain ⟨h1, h2⟩ := atD_some h
      obtain ⟨j, rfl⟩ : ∃ j, i = j + 1 := ⟨i - 1, by omega⟩
      exact ⟨by simpa using h1, by simpa using h2⟩
theorem atE_some {k : DV → Option α} {r : α} : ∀ {l : List (List DV)} {i f : Nat}, atE l i f k = some r → i < l.length ∧ k ((l.getD i []).getD f .any) = some r
  | [], i, f, h => by simp [atE] at h
  | v :: l, i, f, h => by
    rcases dec_some h with ⟨rfl, h⟩ | ⟨hi, h⟩
    · exact ⟨by simp, by simpa using (atD_some h).2⟩
    · obtain ⟨h1, h2⟩ := atE_some h
      obtain ⟨j, rfl⟩ : ∃ j, i = j + 1 := ⟨i - 1, by omega⟩
      exact ⟨by simpa using h1, by simpa using h2⟩
theorem DC.at_some {k : DV → Option α} {r : α} : ∀ {c : DC} {i f : Nat}, c.good → c.at i f k = some r → i < c.n ∧ k (c.get i f) = some r
  | .lst l, i, f, _, h => atE_some h
  | .tab n g, i, f, _, h => dec_none h
  | .upd c j e v, i, f, hg, h => by
    unfold DC.at at h
    unfold DC.n DC.get
    rcases dec_some h with ⟨rfl, h⟩ | ⟨hi, h⟩
    · rcases dec_some h with ⟨hf, h⟩ | ⟨hf, h⟩
      · obtain ⟨h1, h2⟩ := dec_none h
        exact ⟨h1, by rw [if_pos ⟨rfl, hf⟩]; exact h2⟩
      · obtain ⟨h1, h2⟩ := DC.at_some (c := c) hg h
        exact ⟨h1, by rw [if_neg (fun x => hf x.2)]; exact h2⟩
    · obtain ⟨h1, h2⟩ := DC.at_some (c := c) hg h
      exact ⟨h1, by rw [if_neg (fun x => hi x.1)]; exact h2⟩
  | .app c d, i, f, hg, h => by
    unfold DC.at at h
    unfold DC.n DC.get
    rcases dec_some h with ⟨hi, h⟩ | ⟨hi, h⟩
    · obtain ⟨h1, h2⟩ := DC.at_some (c := c) hg.1 h
      exact ⟨by omega, by rw [if_pos hi]; exact h2⟩
    · obtain ⟨h1, h2⟩ := DC.at_some (c := d) hg.2 h
      exact ⟨by omega, by rw [if_neg hi]; exact h2⟩
  | .pre c m, i, f, hg, h => by
    unfold DC.at at h
    unfold DC.n DC.get
    obtain ⟨h0, h⟩ := dec_none h
    exact ⟨h0, (DC.at_some (c := c) hg.1 h).2⟩
end

structure DBlk where
  k : Nat
  c : DC
abbrev DHeap := List (Option DBlk)

/-- The symbolic state stands for the evaluator's. -/
structure St (st : AE.Stat) (C : Cf) (μ : Mu) (σ : Heap) (σd : DHeap) : Prop where
  frz : ∀ t b s o v, C t b s o = some v → cellA st σ ⟨b, 0, s⟩ o = some v
  own : ∀ (id : Nat) blk, σd[id]? = some (some blk) → ∃ b L l, μ id = some (b, blk.k, L) ∧ 0 < blk.k ∧ σ[b]? = some (some (.cells l)) ∧ l.length = L ∧ blk.c.n * blk.k ≤ L ∧ blk.c.good ∧
    ∀ i f, i < blk.c.n → f < blk.k → ∃ v, l[i * blk.k + f]? = some v ∧ v.oneCell' = true ∧ DR C μ (blk.c.get i f) v
  sep : ∀ (id : Nat) blk b x, σd[id]? = some (some blk) → μ id = some (b, x) → ∀ t o, C t b none o = none
  inj : ∀ (id id' : Nat) blk blk' b x x', σd[id]? = some (some blk) → σd[id']? = some (some blk') → μ id = some (b, x) → μ id' = some (b, x') → id = id'
  dom : ∀ id x, μ id = some x → id < σd.length ∧ x.1 < σ.length
  low : ∀ t b o v, C t b none o = some v → b < σ.length
  sta : ∀ b s o v, st b o = some v → C false b (some s) o = some v

def Live (μ : Mu) (σd : DHeap) (b : Nat) : Prop := ∃ (id : Nat) (blk : DBlk) (x : Nat × Nat), σd[id]? = some (some blk) ∧ μ id = some (b, x)

/-- What a step leaves. -/
structure Nx (C : Cf) (μ : Mu) (σ : Heap) (σd : DHeap) (C' : Cf) (μ' : Mu) (σ' : Heap) (σd' : DHeap) : Prop where
  hC : C.le C'
  hμ : μ.le μ'
  len : σ.length ≤ σ'.length
  lend : σd.length ≤ σd'.length
  fr : ∀ b, b < σ.length → ¬ Live μ σd b → σ'[b]? = σ[b]?
  img : ∀ b, Live μ' σd' b → b < σ.length → Live μ σd b
  old : ∀ t b s o v, C' t b s o = some v → C t b s o = some v
  new : ∀ b o v, C' true b none o = some v → b < σ.length → C true b none o = some v ∨ Live μ σd b
theorem Nx.refl (C : Cf) (μ : Mu) (σ : Heap) (σd : DHeap) : Nx C μ σ σd C μ σ σd := ⟨Cf.le_refl _, Mu.le_refl _, Nat.le_refl _, Nat.le_refl _, fun _ _ _ => rfl, fun _ h _ => h, fun _ _ _ _ _ h => h, fun _ _ _ h _ => .inl h⟩
theorem Nx.trans {C C1 C2 : Cf} {μ μ1 μ2 : Mu} {σ σ1 σ2 : Heap} {σd σd1 σd2 : DHeap} (h : Nx C μ σ σd C1 μ1 σ1 σd1) (k : Nx C1 μ1 σ1 σd1 C2 μ2 σ2 σd2) : Nx C μ σ σd C2 μ2 σ2 σd2 :=
  ⟨Cf.le_trans h.hC k.hC, Mu.le_trans h.hμ k.hμ, Nat.le_trans h.len k.len, Nat.le_trans h.lend k.lend,
    fun b hb hl => (k.fr b (Nat.lt_of_lt_of_le hb h.len) (fun x => hl (h.img b x hb))).trans (h.fr b hb hl),
    fun b hl hb => h.img b (k.img b hl (Nat.lt_of_lt_of_le hb h.len)) hb, fun t b s o v x => h.old t b s o v (k.old t b s o v x),
    fun b o v hx hb => by
      rcases k.new b o v hx (Nat.lt_of_lt_of_le hb h.len) with h1 | h1
      · exact h.new b o v h1 hb
      · exact .inr (h.img b h1 hb)⟩
end Go.DE
