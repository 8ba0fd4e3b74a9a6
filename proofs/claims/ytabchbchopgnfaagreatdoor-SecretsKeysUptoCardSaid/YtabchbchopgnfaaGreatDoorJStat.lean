/-
  What is known of the memory when the law is called; the terminal and the key that it is handed.
  Conditions: the row's own, that the table of attr's codes holds what the row lists, and that what is read is of bulk at most 1048576.
-/
import Derived.Test.YtabchbchopgnfaaGreatDoorJAwk
import Derived.Test.YtabchbchopgnfaaGreatDoorJLaw
import Derived.Test.YtabchbchopgnfaaGreatDoorDeOpen
import Derived.Test.YtabchbchopgnfaaGreatDoorAeClaim
import Derived.Test.YtabchbchopgnfaaGreatDoorCards
import Derived.Test.YtabchbchopgnfaaGreatDoorTie
import Derived.Lay
import Derived.Lib.LaidTab
import Derived.Lib.SmallJoins
import Derived.WalkKit
import Derived.MakeChecks
import Derived.Deep.DeepHandedRow
import Derived.ChangeMaps5
namespace Go.Proofs.YtabchbchopgnfaaGreatDoor
open Go Go.AE Go.DE Go.RowKit Go.ChangeShapes Go.Joins

noncomputable def extK : ExtG := fun f args _ _ => match f with
  | 5 => keepX awV args
  | 22 => keepX namedV args
  | _ => none
noncomputable def stK (W : World) : AE.Stat := ⟨stOf W, extOf extK⟩
theorem stK_good (W : World) : GoodSt W (stK W) := stOf_good W _
theorem hxK (W : World) : ∀ f, f ≠ 5 → f ≠ 22 → ∀ a σ, (stK W).ext f a σ = none := fun f h1 h2 a σ => by
  have : extK f a (hp σ) σ.length = none := by
    unfold extK
    split <;> first | contradiction | rfl
  simp [stK, extOf, RG.app, this]
theorem awC_ok (W : World) : ConOk Tryz.prog (stK W) 5 awC := by
  refine con_ext Tryz.func5 (by kernel_rfl) (by kernel_rfl) fun args k hk => ?_
  unfold awC at hk
  split at hk <;> first | (cases hk; done) | skip
  refine ⟨.bool true, rfl, hk, fun C σ vs _ ha => ?_⟩
  obtain rfl : vs = [] := ha.nil_inv
  rfl
theorem extK_ok {W : World} (hst : GoodSt W stA) : CallOk Tryz.prog W (stK W).ext := by
  intro f
  by_cases h1 : f = 5
  · subst h1; exact keep_fn (awake_ok hst)
  by_cases h2 : f = 22
  · subst h2; exact keep_fn named_ok
  · intro args σ v σ' hx
    rw [hxK W f h1 h2] at hx
    cases hx
noncomputable def lwC (x : Tm) : ConF := fun args k => match args with
  | [.agg l, .agg [.v (.string _), .v (.int .i32 _), .v (.bool _), .v (.bool _), .v (.bool _)], .v (.int .i64 _)] => bif holds (l = x.cells) then k (fun _ => (bv true, [])) else none
  | _ => none
theorem keC_ok {st : AE.Stat} (hx : ∀ f, f ≠ 5 → f ≠ 22 → ∀ a σ, st.ext f a σ = none) (hE : ConOk Tryz.prog st 7 (ecC encS (kcF cwF nmZ))) : ConOk Tryz.prog st 6 (keC encS (kcF cwF nmZ)) :=

  inl2_ok Tryz.func6 (by kernel_rfl) (by kernel_rfl) (hx 6 (by decide) (by decide)) (glOk st) (tblD_env (l := [(7, ecC encS (kcF cwF nmZ))]) fun y h => by
    obtain rfl : y = (7, ecC encS (kcF cwF nmZ)) := by simpa using h
    exact hE) (fun _ _ _ h => nomatch h)
theorem srC_ok {st : AE.Stat} (hx : ∀ f, f ≠ 5 → f ≠ 22 → ∀ a σ, st.ext f a σ = none) : ConOk Tryz.prog st 8 srC :=

  inl2_ok Tryz.func8 (by kernel_rfl) (by kernel_rfl) (hx 8 (by decide) (by decide)) (glOk st) (tblD_env (l := []) fun _ h => nomatch h) (fun _ _ _ h => nomatch h)
theorem lwC_ok (W : World) (x : Tm) (hok : x.ok) : ConOk Tryz.prog (stK W) 3 (lwC x) := by
  have hx := hxK W
  have hE : ConOk Tryz.prog (stK W) 7 (ecC encS (kcF cwF nmZ)) := ecC_ok hx fun _ _ => rfl
  refine con_flat (mg := []) (l := lwL x (fineF x) encS (kcF cwF nmZ)) (lp := noLp) (n := 0) (glOk _) (fun y h => ?_) Tryz.func3 (by kernel_rfl) (by kernel_rfl) (hx 3 (by decide) (by decide)) (fun _ _ _ h => nomatch h) fun args k hk => ?_
  · simp only [lwL, List.mem_cons, List.not_mem_nil, or_false] at h
    rcases h with rfl | rfl | rfl | rfl | rfl
    · exact fnC_ok hx x hok
    · exact awC_ok W
    · exact keC_ok hx hE
    · exact hE
    · exact srC_ok hx
  unfold lwC at hk
  split at hk <;> first | (cases hk; done) | skip
  rename_i l nm r c a s time
  obtain ⟨hb, hk2⟩ := bif_none hk
  obtain rfl := holds_eq.1 hb
  exact ⟨_, _, .self (.self (.self .nil)), v_clo _, hk2, law_true x nm r c a s time⟩

/-! ### The terminal -/
def celK : List Kd := [.str, .int .i64, .int .i64, .int .i64, .int .i64]
def rwsK : Kd := .sl [.sl celK]
def booD : DV → Bool
  | .v (.bool b) => b
  | _ => false
section
variable {d : DV}
theorem sc_int {k : IntKind} (h : HasK 1048576 (.int k) d) : Cv d (kv k (numD d)) := by cases h; exact .of rfl
theorem sc_bool (h : HasK 1048576 .bool d) : Cv d (bv (booD d)) := by cases h; exact .of rfl
theorem sc_str (h : HasK 1048576 .str d) : Cv d (sv (strD d)) := by cases h; exact .of rfl
theorem row_is (h : HasK 1048576 (.sl celK) d) : isRow d := by
  cases h with
  | sl ks g n hn h =>
    refine ⟨rfl, Nat.le_trans hn (by decide), fun i hi => ?_⟩
    have h0 := h i 0 _ hi rfl
    have h1 := h i 1 _ hi rfl
    have h2 := h i 2 _ hi rfl
    have h3 := h i 3 _ hi rfl
    have h4 := h i 4 _ hi rfl
    have e0 : ∀ {d : DV}, HasK 1048576 .str d → d = sv (strD d) ∧ (strD d).size ≤ 9000000 := fun h => by
      cases h with
      | str s hs => exact ⟨rfl, Nat.le_trans hs (by decide)⟩
    have e1 : ∀ {d : DV}, HasK 1048576 (.int .i64) d → d = iv (numD d) := fun h => by cases h; rfl
    exact ⟨(e0 h0).1, (e0 h0).2, e1 h1, e1 h2, e1 h3, e1 h4⟩
theorem rows_inv (h : HasK 1048576 rwsK d) : ∃ g n, d = .sl false g 1 n ∧ n ≤ 1048576 ∧ ∀ i, i < n → isRow (g i 0) := by
  unfold rwsK at h
  cases h with
  | sl ks g n hn h => exact ⟨g, n, rfl, hn, fun i hi => row_is (h i 0 _ hi rfl)⟩
theorem sc_rows (h : HasK 1048576 rwsK d) : Cv d (.sl false (rowsD (fun i => slT (slG d i 0)) fun i => rowD (slG d i 0)) 1 (slN d)) := by
  obtain ⟨g, n, rfl, -, hr⟩ := rows_inv h
  exact rows_cv hr
theorem rows_ok (h : HasK 1048576 rwsK d) : rowsOk (fun i => rowD (slG d i 0)) (slN d) := by
  obtain ⟨g, n, rfl, hn, hr⟩ := rows_inv h
  exact ⟨Nat.le_trans hn (by decide), fun i hi => (hr i hi).2.row⟩
theorem sc_tabs (h : HasK 1048576 (.sl [.bool]) d) : Cv d (.sl false (tabsD fun i => booD (slG d i 0)) 1 (slN d)) := by
  cases h with
  | sl ks g n hn h =>
    refine Cv.sl fun i f hi hf => ?_
    obtain rfl : f = 0 := by
      have : f < 1 := hf
      omega
    exact sc_bool (h i 0 _ hi rfl)
theorem tabs_ok (h : HasK 1048576 (.sl [.bool]) d) : slN d ≤ 9000000 := by
  cases h with
  | sl ks g n hn h => exact Nat.le_trans hn (by decide)
theorem str_ok (h : HasK 1048576 .str d) : (strD d).size ≤ 9000000 := by
  cases h with
  | str s hs => exact Nat.le_trans hs (by decide)
end
def trmK : List Kd := [.int .i64, .int .i64, rwsK, .int .i64, .int .i64, rwsK, .int .i64, .int .i64, .bool, .int .i64, .int .i64, .bool, .int .i64, .int .i64, .int .i64, .bool, .int .u8, .int .u8, .int .i64, .int .i64, .int .i64, .int .i64, .bool, .bool, .bool, .bool, .bool, .bool, .bool, .bool, .int .u8, .int .u8, .int .i64, .int .i64, .int .i64, .sl [.bool], rwsK, .int .i64, .str, .str, .str, .str]
def tmOf (ds : List DV) : Tm where
  I j := numD (ds.getD j .any)
  B j := booD (ds.getD j .any)
  S j := strD (ds.getD j .any)
  gT i := slT (slG (ds.getD 2 .any) i 0)
  gR i := rowD (slG (ds.getD 2 .any) i 0)
  gn := slN (ds.getD 2 .any)
  oT i := slT (slG (ds.getD 5 .any) i 0)
  oR i := rowD (slG (ds.getD 5 .any) i 0)
  on := slN (ds.getD 5 .any)
  tb i := booD (slG (ds.getD 35 .any) i 0)
  tn := slN (ds.getD 35 .any)
  bT i := slT (slG (ds.getD 36 .any) i 0)
  bR i := rowD (slG (ds.getD 36 .any) i 0)
  bn := slN (ds.getD 36 .any)
theorem cvl_of : ∀ {ds es : List DV}, ds.length = es.length → (∀ i, i < es.length → Cv (ds.getD i .any) (es.getD i .any)) → CvL ds es
  | [], [], _, _ => .nil
  | d :: ds, e :: es, hl, h => .cons (h 0 (Nat.zero_lt_succ _)) (cvl_of (by simpa using hl) fun i hi => h (i + 1) (by simpa using hi))
theorem has_getD {B : Nat} {ks : List Kd} {ds : List DV} (h : ∀ (i : Nat) k, ks[i]? = some k → ∃ d, ds[i]? = some d ∧ HasK B k d) : ∀ (i : Nat) k, ks[i]? = some k → HasK B k (ds.getD i .any) := fun i k hk => by
  obtain ⟨d, h1, h2⟩ := h i k hk
  rw [List.getD_eq_getElem?_getD, h1]
  exact h2
theorem tm_cv {ds : List DV} (hl : ds.length = 42) (hk : ∀ (i : Nat) k, trmK[i]? = some k → HasK 1048576 k (ds.getD i .any)) : CvL ds (tmOf ds).cells :=

  cvl_of hl fun i hi => by
    have hi : i < 42 := hi
    have hi : i = 0 ∨ i = 1 ∨ i = 2 ∨ i = 3 ∨ i = 4 ∨ i = 5 ∨ i = 6 ∨ i = 7 ∨ i = 8 ∨ i = 9 ∨ i = 10 ∨ i = 11 ∨ i = 12 ∨ i = 13 ∨ i = 14 ∨ i = 15 ∨ i = 16 ∨ i = 17 ∨ i = 18 ∨ i = 19 ∨ i = 20 ∨ i = 21 ∨ i = 22 ∨ i = 23 ∨ i = 24 ∨ i = 25 ∨ i = 26 ∨ i = 27 ∨ i = 28 ∨ i = 29 ∨ i = 30 ∨ i = 31 ∨ i = 32 ∨ i = 33 ∨ i = 34 ∨ i = 35 ∨ i = 36 ∨ i = 37 ∨ i = 38 ∨ i = 39 ∨ i = 40 ∨ i = 41 := by omega
    rcases hi with rfl | rfl | rfl | rfl | rfl | rfl | rfl | rfl | rfl | rfl | rfl | rfl | rfl | rfl | rfl | rfl | rfl | rfl | rfl | rfl | rfl | rfl | rfl | rfl | rfl | rfl | rfl | rfl | rfl | rfl | rfl | rfl | rfl | rfl | rfl | rfl | rfl | rfl | rfl | rfl | rfl | rfl
    · exact sc_int (hk 0 _ rfl)
    · exact sc_int (hk 1 _ rfl)
    · exact sc_rows (hk 2 _ rfl)
    · exact sc_int (hk 3 _ rfl)
    · exact sc_int (hk 4 _ rfl)
    · exact sc_rows (hk 5 _ rfl)
    · exact sc_int (hk 6 _ rfl)
    · exact sc_int (hk 7 _ rfl)
    · exact sc_bool (hk 8 _ rfl)
    · exact sc_int (hk 9 _ rfl)
    · exact sc_int (hk 10 _ rfl)
    · exact sc_bool (hk 11 _ rfl)
    · exact sc_int (hk 12 _ rfl)
    · exact sc_int (hk 13 _ rfl)
    · exact sc_int (hk 14 _ rfl)
    · exact sc_bool (hk 15 _ rfl)
    · exact sc_int (hk 16 _ rfl)
    · exact sc_int (hk 17 _ rfl)
    · exact sc_int (hk 18 _ rfl)
    · exact sc_int (hk 19 _ rfl)
    · exact sc_int (hk 20 _ rfl)
    · exact sc_int (hk 21 _ rfl)
    · exact sc_bool (hk 22 _ rfl)
    · exact sc_bool (hk 23 _ rfl)
    · exact sc_bool (hk 24 _ rfl)
    · exact sc_bool (hk 25 _ rfl)
    · exact sc_bool (hk 26 _ rfl)
    · exact sc_bool (hk 27 _ rfl)
    · exact sc_bool (hk 28 _ rfl)
    · exact sc_bool (hk 29 _ rfl)
    · exact sc_int (hk 30 _ rfl)
    · exact sc_int (hk 31 _ rfl)
    · exact sc_int (hk 32 _ rfl)
    · exact sc_int (hk 33 _ rfl)
    · exact sc_int (hk 34 _ rfl)
    · exact sc_tabs (hk 35 _ rfl)
    · exact sc_rows (hk 36 _ rfl)
    · exact sc_int (hk 37 _ rfl)
    · exact sc_str (hk 38 _ rfl)
    · exact sc_str (hk 39 _ rfl)
    · exact sc_str (hk 40 _ rfl)
    · exact sc_str (hk 41 _ rfl)
theorem tm_ok {ds : List DV} (hk : ∀ (i : Nat) k, trmK[i]? = some k → HasK 1048576 k (ds.getD i .any)) : (tmOf ds).ok :=

  ⟨rows_ok (hk 2 _ rfl), rows_ok (hk 5 _ rfl), rows_ok (hk 36 _ rfl), tabs_ok (hk 35 _ rfl), str_ok (hk 40 _ rfl), str_ok (hk 41 _ rfl)⟩
theorem trm_kinds : kinds Tryz.prog 8 38 = some trmK := by kernel_rfl
def keyK : List Kd := [.str, .int .i32, .bool, .bool, .bool]
theorem key_kinds : kinds Tryz.prog 4 40 = some keyK := by kernel_rfl
/-! ### Bulk -/
theorem bulk_mem {H : Type} {d : DataW H} : ∀ {l : List (DataW H)}, d ∈ l → Rows.uptoBulk d ≤ Rows.uptoBulkAll l
  | x :: l, h => by
    rw [Rows.uptoBulkAll]
    rcases List.mem_cons.1 h with rfl | h
    · exact Nat.le_add_right _ _
    · exact Nat.le_trans (bulk_mem h) (Nat.le_add_left _ _)
theorem bulk_pos {H : Type} (d : DataW H) : 1 ≤ Rows.uptoBulk d := by
  cases d <;> (try unfold Rows.uptoBulk) <;> first | exact Nat.le_refl 1 | exact Nat.le_add_left _ _ | skip
  rename_i l
  cases l <;> first | exact Nat.le_add_left _ _ | exact Nat.le_refl 1
theorem bulk_len {H : Type} : ∀ (l : List (DataW H)), l.length ≤ Rows.uptoBulkAll l
  | [] => Nat.zero_le _
  | x :: l => by
    rw [Rows.uptoBulkAll, List.length_cons]
    have := bulk_len l
    have := bulk_pos x
    omega
theorem bulkOk {H : Type} : BkOk (H := H) Rows.uptoBulk :=

  ⟨fun l => by unfold Rows.uptoBulk; exact Nat.le_add_right _ _, fun l d h => by rw [Rows.uptoBulk]; exact Nat.le_trans (bulk_mem h) (Nat.le_add_right _ _),
    fun l sp d h => by rw [Rows.uptoBulk]; have := bulk_mem h; omega, fun l sp => by rw [Rows.uptoBulk]; have := bulk_len l; omega⟩
theorem bulk_le {H : Type} {d : DataW H} {p : List MemPlace} (hb : Rows.uptoBulk d ≤ 1048576) : Rows.uptoBulk (d, p).1 ≤ 1048576 := hb

set_option maxRecDepth 100000 in
theorem open_struct {H : Type} {enc : TypeId × Value → H} {W : World} {b0 n : Nat} {t : TypeId} {fs : Array Field} {ks : List Kd} {v : Value} {d : DataW H} {p : List MemPlace} {r : Reach} (ht : Tryz.prog.underlying t = some (.struct fs)) (hk : kinds Tryz.prog n t = some ks)
    (hv : Value.okWide Tryz.prog W r b0 t v) (h : DataW.Trod enc Tryz.prog W 0 (fun _ => true) true t v d p) (hb : Rows.uptoBulk d ≤ 1048576) :
    ∃ ds w, ds.length = ks.length ∧ (∀ (i : Nat) k, ks[i]? = some k → HasK 1048576 k (ds.getD i .any)) ∧ (∀ es, CvL ds es → DR (baseC (stK W)) noMu (.agg es) w) ∧ VR (fun _ => none) w v := by
  obtain ⟨cs, rfl, -⟩ := Go.WideShapes.okWide_struct ht hv
  obtain ⟨fuel, hf⟩ := h
  obtain ⟨ds, ws, a1, a2, a3, a4, a5⟩ := opn (B := 1048576) (bk := Rows.uptoBulk) bulkOk (extOf extK) n t ks hk fuel (Value.agg cs).cells.toList (d, p) hf (bulk_le hb)
  have a4 : cs.size = ks.length := by simpa [Value.cells] using a4
  have hw : ws.length = cs.size := by rw [← a3.1, a1, a4]
  refine ⟨ds, .agg ws.toArray, a1, has_getD a2, fun es he => ?_, ?_⟩
  · have hd := he.drl a3
    exact .agg _ _ (by simpa using hd.1) fun i d x h1 h2 => hd.2 i d x h1 (by simpa using h2)
  · refine .agg _ _ (by simpa using hw) fun i u v h1 h2 => ?_
    obtain ⟨u', e1, e2⟩ := a5 i v (by simpa [Value.cells] using h2)
    have : u = u' := by
      rw [List.getElem?_toArray, e1] at h1
      exact (Option.some.inj h1).symm
    subst this
    exact (stV_vr e2 _).1
end Go.Proofs.YtabchbchopgnfaaGreatDoor
