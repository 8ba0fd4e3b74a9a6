/-
  The contracts of strings.Join and of what else the encoding of a record calls.
  Condition: the library's functions do what the table tells (stJ).
-/
import Derived.Test.YtiphckeipbfbmaaGreatDoorJBase
namespace Go.Proofs.YtiphckeipbfbmaaGreatDoor
open Go Go.AE Go.DE Go.RowKit

abbrev iv (x : Int) : DV := .v (.int .i64 x)
abbrev sv (s : ByteArray) : DV := .v (.string s)
abbrev bv (b : Bool) : DV := .v (.bool b)
def gl0 : Gl := fun _ => .any
theorem glOk (st : AE.Stat) : GlOk st gl0 := ⟨fun _ => .any, fun _ _ _ _ _ _ => .any _⟩
noncomputable def env (l : List (FuncId × ConF)) (lp : Nat → Option (LoopD Unit)) (n : Nat) (mg : List (Nat × List (Nat × List Nat)) := []) : Env Unit := ⟨tblD l, fun _ => true, gl0, lp, n, joins Tryz.prog gl0 mg⟩

/-- A list of strings. -/
def strOf : DV → ByteArray
  | .v (.string s) => s
  | _ => .empty
def strs (g : Nat → Nat → DV) (n : Nat) : List ByteArray := (List.range n).map fun i => strOf (g i 0)
def strsOk (g : Nat → Nat → DV) (n : Nat) : Prop := ∀ i, i < n → g i 0 = sv (strOf (g i 0))
def joinS (l : List ByteArray) (sep : ByteArray) : ByteArray := ⟨(joinL l sep).toArray⟩
noncomputable def joinC : ConF := fun args k => match args with
  | [.sl _ g 1 n, .v (.string sep)] => bif decide (0 < n) then (bif holds (strsOk g n ∧ (joinL (strs g n) sep).length ≤ 140737488355328 ∧ n ≤ 140737488355328) then k (fun _ => (sv (joinS (strs g n) sep), [])) else none) else none
  | _ => none
theorem joinC_ok : ConOk Tryz.prog stJ 33 joinC := by
  refine con_ext Tryz.func33 (by kernel_rfl) (by kernel_rfl) fun args k hk => ?_
  unfold joinC at hk
  split at hk <;> first | (cases hk; done) | skip
  rename_i t g n sep
  obtain ⟨h0, hk⟩ := dec_none hk
  obtain ⟨h1, hk⟩ := bif_none hk
  obtain ⟨h1, h2, h3⟩ := holds_eq.1 h1
  refine ⟨.string (joinS (strs g n) sep), rfl, hk, fun C σ vs hS ha => ?_⟩
  obtain ⟨x, r, rfl, hx, hr⟩ := ha.cons_inv
  obtain ⟨y, r, rfl, hy, hr⟩ := hr.cons_inv
  obtain rfl := hr.nil_inv
  obtain ⟨rfl, _⟩ := DR_v hy
  rcases hx.sl_inv with ⟨a, cap, w, rfl, hc, hk0, q1, q2⟩ | ⟨e, _⟩
  case inr => omega
  have hw : ∀ i, i < n → w i 0 = .string (strOf (g i 0)) := by
    intro i hi
    have := q2 i 0 hi (by decide)
    rw [h1 i hi] at this
    exact (DR_v this).1
  have hl : loadN stN σ a n = some ((strs g n).map Value.string) := by
    refine loadN_intro h0 (by simp [strs]) fun j v hv => ?_
    have hj : j < n := by
      have := (List.getElem?_eq_some_iff.1 hv).1
      simpa [strs] using this
    have e : v = w j 0 := by
      rw [hw j hj]
      simpa [strs, hj] using hv.symm
    have := hS.frz _ _ _ _ _ (q1 j 0 hj (by decide)).1
    rw [e, ← this]
    simp only [Nat.mul_one, Nat.add_zero]
    rfl
  have hss : strsA ((strs g n).map Value.string) = some (strs g n) := by
    generalize strs g n = l
    induction l with
    | nil => rfl
    | cons s l ih => simp only [List.map_cons, strsA, ih, Option.map_some]
  show RG.app σ (joinX (hp σ) [.slice (some a) n cap, .string sep]) = _
  unfold joinX
  simp only
  rw [if_neg (by omega), loadG_eq, hl]
  simp only [hss]
  rw [if_pos ⟨h2, by simpa [strs] using h3⟩]
  rfl
noncomputable def itoaC : ConF := fun args k => match args with
  | [.v (.int .i64 n)] => bif holds (-9223372036854775808 ≤ n ∧ n ≤ 9223372036854775807) then k (fun _ => (sv ⟨(Lib.itoa n).toArray⟩, [])) else none
  | _ => none
theorem itoaC_ok : ConOk Tryz.prog stJ 29 itoaC := by
  refine con_ext Tryz.func29 (by kernel_rfl) (by kernel_rfl) fun args k hk => ?_
  unfold itoaC at hk
  split at hk <;> first | (cases hk; done) | skip
  rename_i n
  obtain ⟨h1, hk⟩ := bif_none hk
  have h1 := holds_eq.1 h1
  refine ⟨.string ⟨(Lib.itoa n).toArray⟩, rfl, hk, fun C σ vs hS ha => ?_⟩
  obtain ⟨x, r, rfl, hx, hr⟩ := ha.cons_inv
  obtain rfl := hr.nil_inv
  obtain ⟨rfl, _⟩ := DR_v hx
  show RG.app σ (keepX itoaV [.int .i64 n]) = _
  simp only [keepX, itoaV, if_pos h1]
  rfl
noncomputable def indexC : ConF := fun args k => match args with
  | [.v (.string s), .v (.string ⟨⟨[c]⟩⟩)] => k (fun _ => (iv (Lib.indexByte s.data.toList c), []))
  | _ => none
theorem indexC_ok : ConOk Tryz.prog stJ 70 indexC := by
  refine con_ext Tryz.func70 (by kernel_rfl) (by kernel_rfl) fun args k hk => ?_
  unfold indexC at hk
  split at hk <;> first | (cases hk; done) | skip
  rename_i s c
  refine ⟨.int .i64 (Lib.indexByte s.data.toList c), rfl, hk, fun C σ vs hS ha => ?_⟩
  obtain ⟨x, r, rfl, hx, hr⟩ := ha.cons_inv
  obtain ⟨y, r, rfl, hy, hr⟩ := hr.cons_inv
  obtain rfl := hr.nil_inv
  obtain ⟨rfl, _⟩ := DR_v hx
  obtain ⟨rfl, _⟩ := DR_v hy
  rfl
noncomputable def prefixC : ConF := fun args k => match args with
  | [.v (.string s), .v (.string t)] => k (fun _ => (bv (Lib.hasPrefix s.data.toList t.data.toList), []))
  | _ => none
theorem prefixC_ok : ConOk Tryz.prog stJ 17 prefixC := by
  refine con_ext Tryz.func17 (by kernel_rfl) (by kernel_rfl) fun args k hk => ?_
  unfold prefixC at hk
  split at hk <;> first | (cases hk; done) | skip
  rename_i s t
  refine ⟨.bool (Lib.hasPrefix s.data.toList t.data.toList), rfl, hk, fun C σ vs hS ha => ?_⟩
  obtain ⟨x, r, rfl, hx, hr⟩ := ha.cons_inv
  obtain ⟨y, r, rfl, hy, hr⟩ := hr.cons_inv
  obtain rfl := hr.nil_inv
  obtain ⟨rfl, _⟩ := DR_v hx
  obtain ⟨rfl, _⟩ := DR_v hy
  rfl
noncomputable def awakeC : ConF := fun args k => match args with
  | [] => k (fun _ => (bv true, []))
  | _ => none
theorem awakeC_ok : ConOk Tryz.prog stJ 11 awakeC := by
  refine con_ext Tryz.func11 (by kernel_rfl) (by kernel_rfl) fun args k hk => ?_
  unfold awakeC at hk
  split at hk <;> first | (cases hk; done) | skip
  refine ⟨.bool true, rfl, hk, fun C σ vs hS ha => ?_⟩
  obtain rfl := ha.nil_inv
  rfl

noncomputable def inl0 (fn : Func) : ConF := inl Tryz.prog (env [] noLp 0) fn
theorem inl0_ok {f : FuncId} {fn : Func} (hf : Tryz.prog.funcs[f]? = some fn) (hn : (fn.name == "runtime.NumGoroutine") = false) (hb : fn.body.isNone = false) (hx : ∀ a σ, stJ.ext f a σ = none) : ConOk Tryz.prog stJ f (inl0 fn) :=
  inl_ok hf hn hb hx (glOk _) (tblD_env (l := []) (fun _ h => nomatch h)) (fun _ _ _ h => nomatch h)
theorem ext_none {f : FuncId} (h : ∀ a g n, extG f a g n = none) (a : List Value) (σ : Heap) : stJ.ext f a σ = none := by
  show RG.app σ (extG f a (hp σ) σ.length) = none
  rw [h]
  rfl
theorem named_ok : ConOk Tryz.prog stJ 39 (inl0 Tryz.f39) := inl0_ok Tryz.func39 (by kernel_rfl) (by kernel_rfl) (ext_none fun _ _ _ => rfl)
theorem named_tree4 (t : Int) (k : DV → DHeap → Option Unit) : bodyD Tryz.prog (env [] noLp 0) Tryz.f39 [.agg [iv 4, iv t, .v (.slice none 0 0), sv .empty, iv 0, bv false, bv false, iv 0, bv false, iv 0]] [] k =
    k
      (DV.v
        (Value.bool
          (bif (0 : Int) == (0 : Int) then
            bif false == false then
              bif false == false then
                bif (0 : Int) == (0 : Int) then
                  bif false == false then bif (0 : Int) == (0 : Int) then true else false else false
                else false
              else false
            else false
          else false)))
      [some
          { k := (10 : Nat),
            c :=
              DC.lst
                [[DV.v (Value.int IntKind.i64 (4 : Int)), DV.v (Value.int IntKind.i64 t),
                    DV.v (Value.slice none (0 : Nat) (0 : Nat)), DV.v (Value.string ByteArray.empty),
                    DV.v (Value.int IntKind.i64 (0 : Int)), DV.v (Value.bool false), DV.v (Value.bool false),
                    DV.v (Value.int IntKind.i64 (0 : Int)), DV.v (Value.bool false),
                    DV.v (Value.int IntKind.i64 (0 : Int))]] }] := by
  kernel_rfl
theorem named_tree4s (t : Int) (s : ByteArray) (k : DV → DHeap → Option Unit) : bodyD Tryz.prog (env [] noLp 0) Tryz.f39 [.agg [iv 4, iv t, .v (.slice none 0 0), sv s, iv 0, bv false, bv false, iv 0, bv false, iv 0]] [] k =
    bif ByteArray.toList s == ByteArray.toList { data := #[] } then
      k
        (DV.v
          (Value.bool
            (bif (0 : Int) == (0 : Int) then
              bif false == false then
                bif false == false then
                  bif (0 : Int) == (0 : Int) then
                    bif false == false then bif (0 : Int) == (0 : Int) then true else false else false
                  else false
                else false
              else false
            else false)))
        [some
            { k := (10 : Nat),
              c :=
                DC.lst
                  [[DV.v (Value.int IntKind.i64 (4 : Int)), DV.v (Value.int IntKind.i64 t),
                      DV.v (Value.slice none (0 : Nat) (0 : Nat)), DV.v (Value.string s),
                      DV.v (Value.int IntKind.i64 (0 : Int)), DV.v (Value.bool false), DV.v (Value.bool false),
                      DV.v (Value.int IntKind.i64 (0 : Int)), DV.v (Value.bool false),
                      DV.v (Value.int IntKind.i64 (0 : Int))]] }]
    else
      k (DV.v (Value.bool false))
        [some
            { k := (10 : Nat),
              c :=
                DC.lst
                  [[DV.v (Value.int IntKind.i64 (4 : Int)), DV.v (Value.int IntKind.i64 t),
                      DV.v (Value.slice none (0 : Nat) (0 : Nat)), DV.v (Value.string s),
                      DV.v (Value.int IntKind.i64 (0 : Int)), DV.v (Value.bool false), DV.v (Value.bool false),
                      DV.v (Value.int IntKind.i64 (0 : Int)), DV.v (Value.bool false),
                      DV.v (Value.int IntKind.i64 (0 : Int))]] }] := by
  kernel_rfl
theorem named_tree3 (t : Int) (s : ByteArray) (k : DV → DHeap → Option Unit) : bodyD Tryz.prog (env [] noLp 0) Tryz.f39 [.agg [iv 3, iv t, .v (.slice none 0 0), sv s, iv 0, bv false, bv false, iv 0, bv false, iv 0]] [] k =
    k
      (DV.v
        (Value.bool
          (bif (0 : Int) == (0 : Int) then
            bif false == false then
              bif false == false then
                bif (0 : Int) == (0 : Int) then
                  bif false == false then bif (0 : Int) == (0 : Int) then true else false else false
                else false
              else false
            else false
          else false)))
      [some
          { k := (10 : Nat),
            c :=
              DC.lst
                [[DV.v (Value.int IntKind.i64 (3 : Int)), DV.v (Value.int IntKind.i64 t),
                    DV.v (Value.slice none (0 : Nat) (0 : Nat)), DV.v (Value.string s),
                    DV.v (Value.int IntKind.i64 (0 : Int)), DV.v (Value.bool false), DV.v (Value.bool false),
                    DV.v (Value.int IntKind.i64 (0 : Int)), DV.v (Value.bool false),
                    DV.v (Value.int IntKind.i64 (0 : Int))]] }] := by
  kernel_rfl
end Go.Proofs.YtiphckeipbfbmaaGreatDoor
