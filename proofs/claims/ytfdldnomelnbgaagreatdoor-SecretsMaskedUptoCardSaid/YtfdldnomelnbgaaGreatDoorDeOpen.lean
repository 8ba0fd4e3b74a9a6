/-
 What a law is handed, as the symbolic evaluator sees it: numbers, booleans, strings, structs, arrays and slices of them, to any depth.
 Conditions: the data read as the row says (trod), and are of a size that is told.
-/
import Derived.Test.YtfdldnomelnbgaaGreatDoorDeNd
import Derived.Test.YtfdldnomelnbgaaGreatDoorAeClaim
import Derived.Deep.Slices
import Derived.ChangeArms
import Derived.OpenShut
import Derived.DataReads
namespace Go.DE
open Go Go.AE Go.RowKit

inductive Kd where
 | int (k : IntKind)
 | bool
 | str
 | sl (ks : List Kd)
inductive HasK (B : Nat) : Kd → DV → Prop
 | int (k : IntKind) (z : Int) : HasK B (.int k) (kv k z)
 | bool (b : Bool) : HasK B .bool (bv b)
 | str (s : ByteArray) (h : s.size ≤ B) : HasK B .str (sv s)
 | sl (ks : List Kd) (g : Nat → Nat → DV) (n : Nat) (hn : n ≤ B) (h : ∀ i f k, i < n → ks[f]? = some k → HasK B k (g i f)) : HasK B (.sl ks) (.sl false g ks.length n)
def kindsP (P : Program) (K : TypeId → Option (List Kd)) : List (TypeId × Nat) → Nat → Option (List Kd)
 | [], _ => some []
 | (t, o') :: r, o => if o' = o then (match K t, kindsP P K r (o + P.cellsOf t) with
  | some a, some b => if a.length = P.cellsOf t then some (a ++ b) else none
  | _, _ => none) else none
def kinds (P : Program) : Nat → TypeId → Option (List Kd)
 | 0, _ => none
 | n + 1, t => match P.underlying t with
  | some (.int k) => some [.int k]
  | some .bool => some [.bool]
  | some .string => some [.str]
  | some (.struct fs) => match kindsP P (kinds P n) (fs.toList.map fun f => (f.type, f.offset)) 0 with
   | some ks => if ks.length = P.cellsOf t then some ks else none
   | none => none
  | some (.array len e) => match kindsP P (kinds P n) ((List.range len).map fun i => (e, i * P.cellsOf e)) 0 with
   | some ks => if ks.length = P.cellsOf t then some ks else none
   | none => none
  | some (.slice e) => match kinds P n e with
   | some ks => if ks.length = P.cellsOf e ∧ 0 < ks.length then some [.sl ks] else none
   | none => none
  | _ => none

def stV : Value → Option Value
 | .bool b => some (.bool b)
 | .int k n => some (.int k n)
 | .string s => some (.string s)
 | .slice none 0 0 => some (.slice none 0 0)
 | .slice (some a) len cap => if len ≤ cap ∧ cap < unk ∧ (cap = 0 ∨ a.spot = none) then some (.slice (some ⟨a.block, a.off, some 0⟩) len cap) else none
 | _ => none
def stOf (W : World) : Nat → Nat → Option Value := fun b i => (W.cell? ⟨b, i, none⟩).bind stV
theorem stV_vr {v u : Value} (h : stV v = some u) (ρ : Ren) : VR ρ u v ∧ u.oneCell' = true := by
 unfold stV at h
 split at h <;> first | (cases h; done) | skip
 ·obtain rfl := Option.some.inj h; exact ⟨.bool _, rfl⟩
 ·obtain rfl := Option.some.inj h; exact ⟨.int _ _, rfl⟩
 ·obtain rfl := Option.some.inj h; exact ⟨.string _, rfl⟩
 ·obtain rfl := Option.some.inj h; exact ⟨.snil, rfl⟩
 ·split at h <;> first | (cases h; done) | skip
  rename_i a len cap hc
  obtain rfl := Option.some.inj h
  refine ⟨.sliceX _ _ len cap hc.2.1 hc.1 ?_, rfl⟩
  rcases hc.2.2 with h0 | h0
  ·exact .inl h0
  ·exact .inr ⟨h0, .inl ⟨0, rfl, rfl, rfl⟩⟩
theorem stOf_good (W : World) (ext : CallA) : GoodSt W ⟨stOf W, ext⟩ := by
 intro b i v hv
 obtain ⟨c, hc, hs⟩ := Option.bind_eq_some_iff.1 hv
 exact ⟨c, hc, fun ρ => (stV_vr hs ρ).1⟩

def Opn (B : Nat) (C : Cf) (ks : List Kd) (cs : List Value) : Prop :=
 ∃ (ds : List DV) (ws : List Value), ds.length = ks.length ∧ (∀ (i : Nat) k, ks[i]? = some k → ∃ d, ds[i]? = some d ∧ HasK B k d) ∧ DRL C noMu ds ws ∧ cs.length = ks.length ∧ ∀ (i : Nat) v, cs[i]? = some v → ∃ u, ws[i]? = some u ∧ stV v = some u
section
variable {B : Nat} {C : Cf}
theorem Opn.nil : Opn B C [] [] := ⟨[], [], rfl, fun i k h => by simp at h, .nil _ _, rfl, fun i v h => by simp at h⟩
theorem Opn.append {ks ls : List Kd} {cs es : List Value} (h : Opn B C ks cs) (k : Opn B C ls es) : Opn B C (ks ++ ls) (cs ++ es) := by
 obtain ⟨ds, ws, a1, a2, a3, a4, a5⟩ := h
 obtain ⟨ds', ws', b1, b2, b3, b4, b5⟩ := k
 have hw : ws.length = ks.length := a3.1.symm.trans a1
 refine ⟨ds ++ ds', ws ++ ws', by simp [a1, b1], fun i q hq => ?_, a3.append b3, by simp [a4, b4], fun i v hv => ?_⟩
 ·by_cases hi : i < ks.length
  ·rw [List.getElem?_append_left hi] at hq
   rw [List.getElem?_append_left (by omega)]
   exact a2 i q hq
  ·rw [List.getElem?_append_right (by omega)] at hq
   rw [List.getElem?_append_right (by omega), a1]
   exact b2 _ q hq
 ·by_cases hi : i < ks.length
  ·rw [List.getElem?_append_left (by omega)] at hv
   rw [List.getElem?_append_left (by omega)]
   exact a5 i v hv
  ·rw [List.getElem?_append_right (by omega), a4] at hv
   rw [List.getElem?_append_right (by omega), hw]
   exact b5 _ v hv
theorem Opn.one {k : Kd} {d : DV} {v u : Value} (hk : HasK B k d) (hd : DR C noMu d u) (hv : stV v = some u) : Opn B C [k] [v] :=
 ⟨[d], [u], rfl, fun i q h => by
  cases i with
  | zero => obtain rfl := Option.some.inj h; exact ⟨d, rfl, hk⟩
  | succ i => simp at h, .cons hd (.nil _ _), rfl, fun i x h => by
  cases i with
  | zero => obtain rfl := Option.some.inj h; exact ⟨u, rfl, hv⟩
  | succ i => simp at h⟩

variable {H : Type} {enc : TypeId × Value → H} {P : Program} {W : World} {held : Bool} {bk : DataW H → Nat}
structure BkOk (bk : DataW H → Nat) : Prop where
 str : ∀ l, l.length ≤ bk (.lit (.string l))
 agg : ∀ l d, d ∈ l → bk d ≤ bk (.agg l)
 sl : ∀ l sp d, d ∈ l → bk d ≤ bk (.slice l sp)
 len : ∀ l sp, l.length ≤ bk (.slice l sp)
theorem opn_parts {K : TypeId → Option (List Kd)} {m : Nat} {cs : List Value} (ih : ∀ t ks, K t = some ks → ∀ cs x, DataW.trod enc P W 0 (fun _ => true) held m t cs = some x → bk x.1 ≤ B → Opn B C ks cs) :
  ∀ (ps : List (TypeId × Nat)) (o : Nat) (ks : List Kd) (xs : List (DataW H × List MemPlace)), kindsP P K ps o = some ks → (∀ (i : Nat) q, ps[i]? = some q → DataW.trod enc P W 0 (fun _ => true) held m q.1 ((cs.drop q.2).take (P.cellsOf q.1)) = xs[i]?) →
   xs.length = ps.length → (∀ x ∈ xs, bk x.1 ≤ B) → Opn B C ks ((cs.drop o).take ks.length)
 | [], o, ks, xs, h, _, _, _ => by
  obtain rfl := Option.some.inj h
  simpa using Opn.nil
 | (t, o') :: ps, o, ks, xs, h, hx, hl, hb => by
  unfold kindsP at h
  split at h <;> first | (cases h; done) | skip
  rename_i ho
  subst ho
  split at h <;> first | (cases h; done) | skip
  rename_i a b ha hbk
  split at h <;> first | (cases h; done) | skip
  rename_i hlen
  obtain rfl := Option.some.inj h
  cases xs with
  | nil => simp at hl
  | cons x xs =>
   have h0 := hx 0 (t, o') rfl
   simp only [List.getElem?_cons_zero] at h0
   have e : (cs.drop o').take (a ++ b).length = (cs.drop o').take (P.cellsOf t) ++ (cs.drop (o' + P.cellsOf t)).take b.length := by
    rw [List.length_append, hlen, List.take_add, List.drop_drop]
   rw [e]
   exact (ih t a ha _ x h0 (hb x (by simp))).append (opn_parts ih ps _ b xs hbk (fun i q hq => hx (i + 1) q hq) (by simpa using hl) fun x hx => hb x (by simp [hx]))
theorem add_none {a : Addr} (h : a.spot = none) (j : Nat) : a.add j = ⟨a.block, a.off + j, none⟩ := by
 cases a
 simp only at h
 subst h
 unfold Addr.add
 split
 ·rename_i h0; subst h0; rfl
 ·rfl
theorem opn (hbk : BkOk bk) (ext : CallA) : ∀ (n : Nat) (t : TypeId) (ks : List Kd), kinds P n t = some ks → ∀ (fuel : Nat) (cs : List Value) (x : DataW H × List MemPlace),
  DataW.trod enc P W 0 (fun _ => true) held fuel t cs = some x → bk x.1 ≤ B → Opn B (baseC ⟨stOf W, ext⟩) ks cs
 | 0, _, _, h, _, _, _, _, _ => by cases h
 | n + 1, t, ks, h, fuel, cs, x, hx, hB => by
  unfold kinds at h
  split at h <;> first | (cases h; done) | skip
  ·rename_i k hu
   obtain rfl := Option.some.inj h
   obtain ⟨z, rfl, rfl, -⟩ := DataW.trod_int hu hx
   exact .one (.int k z) (.v _ rfl) rfl
  ·rename_i hu
   obtain rfl := Option.some.inj h
   obtain ⟨b, rfl, rfl⟩ := DataW.trod_bool hu hx
   exact .one (.bool b) (.v _ rfl) rfl
  ·rename_i hu
   obtain rfl := Option.some.inj h
   obtain ⟨s, rfl, rfl, -⟩ := DataW.trod_string hu hx
   refine .one (.str s (Nat.le_trans ?_ (Nat.le_trans (hbk.str _) hB))) (.v _ rfl) rfl
   simp
  ·rename_i fs hu
   split at h <;> first | (cases h; done) | skip
   rename_i ks' hk
   split at h <;> first | (cases h; done) | skip
   rename_i hlen
   obtain rfl := Option.some.inj h
   obtain ⟨xs, m, rfl, rfl, hc, hl, hf⟩ := DataW.trod_struct hu hx
   have := opn_parts (fun t ks hk cs x hx hb => opn hbk ext n t ks hk m cs x hx hb) _ 0 _ xs hk (fun i q hq => by
    rw [List.getElem?_map, Option.map_eq_some_iff] at hq
    obtain ⟨f, hq, rfl⟩ := hq
    exact hf i f (by simpa using hq)) (by simpa using hl) fun y hy => Nat.le_trans (hbk.agg _ _ (List.mem_map_of_mem hy)) hB
   rw [List.drop_zero, List.take_of_length_le (by omega)] at this
   exact this
  ·rename_i len e hu
   split at h <;> first | (cases h; done) | skip
   rename_i ks' hk
   split at h <;> first | (cases h; done) | skip
   rename_i hlen
   obtain rfl := Option.some.inj h
   obtain ⟨xs, m, rfl, rfl, hc, hl, hf⟩ := DataW.trod_array hu hx
   have := opn_parts (fun t ks hk cs x hx hb => opn hbk ext n t ks hk m cs x hx hb) _ 0 _ xs hk (fun i q hq => by
    rw [List.getElem?_map, Option.map_eq_some_iff] at hq
    obtain ⟨j, hq, rfl⟩ := hq
    have hj : i < len ∧ j = i := by
     rw [List.getElem?_eq_some_iff] at hq
     obtain ⟨h1, h2⟩ := hq
     simp at h1 h2
     exact ⟨h1, h2.symm⟩
    obtain ⟨h1, rfl⟩ := hj
    exact hf _ h1) (by simpa using hl) fun y hy => Nat.le_trans (hbk.agg _ _ (List.mem_map_of_mem hy)) hB
   rw [List.drop_zero, List.take_of_length_le (by omega)] at this
   exact this
  ·rename_i e hu
   split at h <;> first | (cases h; done) | skip
   rename_i ks' hk
   split at h <;> first | (cases h; done) | skip
   rename_i hlen
   obtain ⟨hl1, hl2⟩ := hlen
   obtain rfl := Option.some.inj h
   rcases Go.Deep.open_slice hu hx with ⟨rfl, rfl⟩ | ⟨a, len, cap, m, q, D, Pl, rfl, -, hlc, hcm, hm, rfl, hel⟩
   ·exact .one (.sl ks' (fun _ _ => .any) 0 (Nat.zero_le _) fun i f k hi => absurd hi (Nat.not_lt_zero _)) (.slnil _ _ _) rfl
   ·simp only [if_true] at hm
    obtain rfl := hm.symm
    have hunk : cap < unk := Nat.lt_of_le_of_lt hcm (by decide)
    have hsp : 0 < cap → a.spot = none := fun h0 => by
     obtain ⟨cs', h1, -⟩ := hel 0 h0
     have := (World.cells?_some h1).2.2 0 (by omega)
     have hlen' := (World.cells?_some h1).2.1
     rw [List.getElem?_eq_getElem (by omega), Nat.zero_mul] at this
     exact World.cell?_spot (a := a) (by simpa [Addr.add] using this)
    have one : ∀ i, ∃ y : List DV × List Value, i < len → y.1.length = ks'.length ∧ (∀ (f : Nat) k, ks'[f]? = some k → ∃ d, y.1[f]? = some d ∧ HasK B k d) ∧ DRL (baseC ⟨stOf W, ext⟩) noMu y.1 y.2 ∧
      ∀ f, f < ks'.length → ∃ u, y.2[f]? = some u ∧ stOf W a.block (a.off + i * ks'.length + f) = some u ∧ u.oneCell' = true := by
     intro i
     by_cases hi : i < len
     ·obtain ⟨cs', h1, h2⟩ := hel i (by omega)
      have hD : bk (D i) ≤ B := Nat.le_trans (hbk.sl _ _ (D i) (List.mem_map.2 ⟨i, by simpa using hi, rfl⟩)) hB
      obtain ⟨ds, ws, a1, a2, a3, a4, a5⟩ := opn hbk ext n e ks' hk q cs' (D i, Pl i) h2 hD
      refine ⟨(ds, ws), fun _ => ⟨a1, a2, a3, fun f hf => ?_⟩⟩
      have hcell := (World.cells?_some h1).2.2 f (by omega)
      rw [List.getElem?_eq_getElem (by omega)] at hcell
      obtain ⟨u, hu1, hu2⟩ := a5 f _ (List.getElem?_eq_getElem (by omega))
      refine ⟨u, hu1, ?_, (stV_vr hu2 fun _ => none).2⟩
      unfold stOf
      rw [Go.Deep.add_add, add_none (hsp (by omega)), ← hl1] at hcell
      rw [show a.off + i * ks'.length + f = a.off + (i * ks'.length + f) by omega, hcell]
      exact hu2
     ·exact ⟨([], []), fun h => absurd h hi⟩
    obtain ⟨Y, hY⟩ := Classical.axiomOfChoice one
    refine .one (d := .sl false (fun i f => (Y i).1.getD f .any) ks'.length len) (u := .slice (some ⟨a.block, a.off, some 0⟩) len cap) (.sl ks' _ len ?_ fun i f k hi hf => ?_) ?_ ?_
    ·refine Nat.le_trans ?_ hB
     have := hbk.len ((List.range len).map D) ((List.range (cap - len)).map fun j => D (len + j))
     simpa using this
    ·obtain ⟨d, h1, h2⟩ := (hY i hi).2.1 f k hf
     show HasK B k ((Y i).1.getD f .any)
     rw [List.getD_eq_getElem?_getD, h1]
     exact h2
    ·refine .sl false _ ks'.length len _ cap (fun i f => (Y i).2.getD f undef) (.inl ⟨hunk, hlc⟩) hl2 (fun i f hi hf => ?_) fun i f hi hf => (hY i hi).2.2.1.getD f undef
     obtain ⟨u, h1, h2, h3⟩ := (hY i hi).2.2.2 f hf
     show stOf W a.block (a.off + i * ks'.length + f) = some ((Y i).2.getD f undef) ∧ ((Y i).2.getD f undef).oneCell' = true
     rw [List.getD_eq_getElem?_getD, h1]
     exact ⟨h2, h3⟩
    ·show (if len ≤ cap ∧ cap < unk ∧ (cap = 0 ∨ a.spot = none) then _ else none) = _
     refine if_pos ⟨hlc, hunk, ?_⟩
     rcases Nat.eq_zero_or_pos cap with h0 | h0
     ·exact .inl h0
     ·exact .inr (hsp h0)
end
end Go.DE
