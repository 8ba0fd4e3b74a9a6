/-
  The contracts of Params, of its reference, and of SameInts.
  Condition: the package-level table 'codes' holds its eight numbers (CodesIn).
-/
import Derived.Test.YtolmaphpfhplpaaDoorRApp
namespace Go.Proofs.YtolmaphpfhplpaaDoor
open Go Go.AE Go.DE Go.RowKit

def lw (L : List Int) : Nat → Int := fun j => L.getD j 0
abbrev lL (L : List Int) : DBlk := lB L.length (lw L)
/-- A block's contents begin with a list. -/
def Has (c : DC) (L : List Int) : Prop := L.length ≤ c.n ∧ c.good ∧ ∀ j, j < L.length → c.get j 0 = iv (lw L j)
theorem Has.sub {r : Nat → Option Nat} {c : DC} {L : List Int} (h : Has c L) : SubC r (lL L) ⟨1, c⟩ :=
  subC_to h.1 trivial fun i f hi hf => ⟨.v _, by
    obtain rfl : f = 0 := by omega
    exact h.2.2 i hi⟩
theorem Has.tab {L : List Int} : Has (.tab L.length (ints (lw L))) L := ⟨Nat.le_refl _, trivial, fun _ _ => rfl⟩
theorem Has.one {v w : Int} (h : v = w) : Has (.lst [[iv v]]) [w] := ⟨Nat.le_refl _, trivial, fun j hj => by
  obtain rfl : j = 0 := by have : j < 1 := hj; omega
  rw [h]
  rfl⟩
theorem Has.three {a b c a' b' c' : Int} (h1 : a = a') (h2 : b = b') (h3 : c = c') : Has (.lst [[iv a], [iv b], [iv c]]) [a', b', c'] := ⟨Nat.le_refl _, trivial, fun j hj => by
  have : j < 3 := hj
  have h : j = 0 ∨ j = 1 ∨ j = 2 := by omega
  rw [h1, h2, h3]
  rcases h with rfl | rfl | rfl <;> rfl⟩
theorem Has.app {c d : DC} {L M : List Int} {n : Nat} (hn : n = L.length) (h : Has c L) (k : Has d M) : Has (.app (.pre c n) d) (L ++ M) := by
  subst hn
  refine ⟨?_, ⟨⟨h.2.1, h.1⟩, k.2.1⟩, fun j hj => ?_⟩
  · show (L ++ M).length ≤ L.length + d.n
    have := k.1
    rw [List.length_append]
    omega
  · show (if j < L.length then c.get j 0 else d.get (j - L.length) 0) = _
    rw [List.length_append] at hj
    split
    · rename_i h1
      rw [h.2.2 j h1]
      unfold lw
      rw [List.getD_eq_getElem?_getD, List.getD_eq_getElem?_getD, List.getElem?_append_left h1]
    · rename_i h1
      rw [k.2.2 _ (by omega)]
      unfold lw
      rw [List.getD_eq_getElem?_getD, List.getD_eq_getElem?_getD, List.getElem?_append_right (by omega)]
theorem finQ_has {s id n : Nat} {L : List Int} {σ : DHeap} {c : DC} (hn : n = L.length) (hb : σ[id]? = some (some ⟨1, c⟩)) (h : Has c L) : FinQ s (.os s 0 L.length, [some (lL L)]) (.os id 0 n) σ :=
  finQ_own (by rw [hn]) hb rfl h.1 trivial fun i f hi hf => ⟨.v _, by
    obtain rfl : f = 0 := by omega
    exact h.2.2 i hi⟩
theorem lowR_list {s n : Nat} {L : List Int} : LowR (.os s 0 n, [some (lL L)]) := ⟨.os _ _ _, fun id blk hb i f _ _ => by
  cases id with
  | zero =>
    obtain rfl : lL L = blk := by simpa using hb
    exact .v _
  | succ id => simp at hb⟩

/-- choose -/
def chooseL (c b : Int) : List Int := if c < 8 then [b + c] else if c < 16 then [b + 52 + c] else [b + 8, 5, c]
noncomputable def chooseC : ConF := fun args k => match args with
  | [.v (.int .i64 c), .v (.int .i64 b)] => bif holds (c ≤ 1000000 ∧ 0 ≤ b ∧ b ≤ 1000) then
      (bif decide (c < 0) then k (fun _ => (.v (.slice none 0 0), [])) else k (fun s => (.os s 0 (chooseL c b).length, [some (lL (chooseL c b))]))) else none
  | _ => none
theorem choose_tree (c b : Int) (k : DV → DHeap → Option Unit) : bodyD Tryd.prog (env [] noLp 0) Tryd.f30 [iv c, iv b] [] k =
    bif decide (c < (0 : Int)) then k (DV.v (Value.slice none (0 : Nat) (0 : Nat))) []
    else
      bif decide (c < (8 : Int)) then
        k (DV.os (0 : Nat) (0 : Nat) (1 : Nat))
          [some { k := (1 : Nat), c := DC.lst [[DV.v (Value.int IntKind.i64 (IntKind.wrap IntKind.i64 (b + c)))]] }]
      else
        bif decide (c < (16 : Int)) then
          k (DV.os (0 : Nat) (0 : Nat) (1 : Nat))
            [some
                { k := (1 : Nat),
                  c :=
                    DC.lst
                      [[DV.v
                            (Value.int IntKind.i64
                              (IntKind.wrap IntKind.i64 (IntKind.wrap IntKind.i64 (b + (52 : Int)) + c)))]] }]
        else
          k (DV.os (0 : Nat) (0 : Nat) (3 : Nat))
            [some
                { k := (1 : Nat),
                  c :=
                    DC.lst
                      [[DV.v (Value.int IntKind.i64 (IntKind.wrap IntKind.i64 (b + (8 : Int))))],
                        [DV.v (Value.int IntKind.i64 (5 : Int))], [DV.v (Value.int IntKind.i64 c)]] }] := by
  kernel_rfl
theorem choose_ok {st : AE.Stat} (hst : CodesIn st) : ConOk Tryd.prog st 30 chooseC := by
  refine con_of (mg := []) (l := []) (lp := noLp) (n := 0) (glOk hst) (fun _ h => nomatch h) Tryd.func30 (by kernel_rfl) (by kernel_rfl) (fun _ _ _ h => nomatch h) fun args k hk => ?_
  unfold chooseC at hk
  split at hk <;> first | (cases hk; done) | skip
  rename_i c b
  obtain ⟨hb, hk⟩ := bif_none hk
  obtain ⟨h1, h2, h3⟩ : c ≤ 1000000 ∧ 0 ≤ b ∧ b ≤ 1000 := holds_eq.1 hb
  rcases dec_some hk with ⟨h0, hk⟩ | ⟨h0, hk⟩
  · exact ⟨[iv c, iv b], _, .self (.self .nil), hk, fun s => ⟨lowR_flat (.v _), (choose_tree c b _).trans (dT h0 (fin_of (finQ_flat (.v _) rfl)))⟩⟩
  · refine ⟨[iv c, iv b], _, .self (.self .nil), hk, fun s => ⟨lowR_list, (choose_tree c b _).trans (dF h0 ?_)⟩⟩
    have e : chooseL c b = if c < 8 then [b + c] else if c < 16 then [b + 52 + c] else [b + 8, 5, c] := rfl
    refine dS (fun h => fin_of ?_) fun h => dS (fun h' => fin_of ?_) fun h' => fin_of ?_
    · rw [if_pos h] at e
      rw [e]
      exact finQ_has rfl rfl (.one (W_in (by omega) (by omega)))
    · rw [if_neg h, if_pos h'] at e
      rw [e]
      exact finQ_has rfl rfl (.one (by rw [W_in (n := b + 52) (by omega) (by omega), W_in (by omega) (by omega)]))
    · rw [if_neg h, if_neg h'] at e
      rw [e]
      exact finQ_has rfl rfl (.three (W_in (by omega) (by omega)) rfl rfl)

/-- paint -/
def paintL (c x y z : Int) : List Int := if c < 8 then [x + c] else if c < 16 then [y + c] else [z, 5, c]
noncomputable def paintC : ConF := fun args k => match args with
  | [.v (.int .i64 c), .v (.int .i64 x), .v (.int .i64 y), .v (.int .i64 z)] => bif holds (c ≤ 1000000 ∧ 0 ≤ x ∧ x ≤ 1000 ∧ 0 ≤ y ∧ y ≤ 1000) then
      (bif decide (c < 0) then k (fun _ => (.v (.slice none 0 0), [])) else k (fun s => (.os s 0 (paintL c x y z).length, [some (lL (paintL c x y z))]))) else none
  | _ => none
theorem paint_tree (c x y z : Int) (k : DV → DHeap → Option Unit) : bodyD Tryd.prog (env [] noLp 0) Tryd.f32 [iv c, iv x, iv y, iv z] [] k =
    bif decide (c < (0 : Int)) then k (DV.v (Value.slice none (0 : Nat) (0 : Nat))) []
    else
      bif decide (c < (8 : Int)) then
        k (DV.os (0 : Nat) (0 : Nat) (1 : Nat))
          [some { k := (1 : Nat), c := DC.lst [[DV.v (Value.int IntKind.i64 (IntKind.wrap IntKind.i64 (x + c)))]] }]
      else
        bif decide (c < (16 : Int)) then
          k (DV.os (0 : Nat) (0 : Nat) (1 : Nat))
            [some { k := (1 : Nat), c := DC.lst [[DV.v (Value.int IntKind.i64 (IntKind.wrap IntKind.i64 (y + c)))]] }]
        else
          k (DV.os (0 : Nat) (0 : Nat) (3 : Nat))
            [some
                { k := (1 : Nat),
                  c :=
                    DC.lst
                      [[DV.v (Value.int IntKind.i64 z)], [DV.v (Value.int IntKind.i64 (5 : Int))],
                        [DV.v (Value.int IntKind.i64 c)]] }] := by
  kernel_rfl
theorem paint_ok {st : AE.Stat} (hst : CodesIn st) : ConOk Tryd.prog st 32 paintC := by
  refine con_of (mg := []) (l := []) (lp := noLp) (n := 0) (glOk hst) (fun _ h => nomatch h) Tryd.func32 (by kernel_rfl) (by kernel_rfl) (fun _ _ _ h => nomatch h) fun args k hk => ?_
  unfold paintC at hk
  split at hk <;> first | (cases hk; done) | skip
  rename_i c x y z
  obtain ⟨hb, hk⟩ := bif_none hk
  obtain ⟨h1, h2, h3, h4, h5⟩ : c ≤ 1000000 ∧ 0 ≤ x ∧ x ≤ 1000 ∧ 0 ≤ y ∧ y ≤ 1000 := holds_eq.1 hb
  rcases dec_some hk with ⟨h0, hk⟩ | ⟨h0, hk⟩
  · exact ⟨[iv c, iv x, iv y, iv z], _, .self (.self (.self (.self .nil))), hk, fun s => ⟨lowR_flat (.v _), (paint_tree c x y z _).trans (dT h0 (fin_of (finQ_flat (.v _) rfl)))⟩⟩
  · refine ⟨[iv c, iv x, iv y, iv z], _, .self (.self (.self (.self .nil))), hk, fun s => ⟨lowR_list, (paint_tree c x y z _).trans (dF h0 ?_)⟩⟩
    have e : paintL c x y z = if c < 8 then [x + c] else if c < 16 then [y + c] else [z, 5, c] := rfl
    refine dS (fun h => fin_of ?_) fun h => dS (fun h' => fin_of ?_) fun h' => fin_of ?_
    · rw [if_pos h] at e
      rw [e]
      exact finQ_has rfl rfl (.one (W_in (by omega) (by omega)))
    · rw [if_neg h, if_pos h'] at e
      rw [e]
      exact finQ_has rfl rfl (.one (W_in (by omega) (by omega)))
    · rw [if_neg h, if_neg h'] at e
      rw [e]
      exact finQ_has rfl rfl (.three rfl rfl rfl)

/-- The flags' numbers. -/
def bandF (f m : Int) : Int := IntKind.i64.wrap ↑(BitVec.toNat (BitVec.ofInt 64 f &&& BitVec.ofInt 64 m))
def bitsP (f : Int) : Nat → Nat → List Int → List Int
  | 0, _, L => L
  | m + 1, i, L => bitsP f m (i + 1) (if bandF f (p2 i) = 0 then L else L ++ [codeN i])
structure PX where
  a : At
  f : Int
  i : Nat
  L : List Int
def PX.r (x : PX) : List Int := bitsP x.a.f (8 - x.i) x.i x.L
def parI : LInv PX where
  pre x := x.i ≤ 8 ∧ x.L.length ≤ x.i + 1
  m := 2
  n := 33
  ps := [1, 3, 7, 8]
  sd x := [.po 0 0 0, .os 2 0 x.L.length, codesD, iv x.i]
  sh x := [some x.a.b, none, some (lL x.L)]
  meas x := 8 - x.i
  e _ := .exit 0
  qs := [1, 3]
  od x := [.po 0 0 0, .os 2 0 x.r.length]
  oh x := [some x.a.b, none, some (lL x.r)]
  guess ds σ := match σ with
    | some ⟨_, .lst [[.v (.int _ x), .v (.int _ y), .v (.int _ f)]]⟩ :: _ => some ⟨⟨x, y, f⟩, 0, 0, [0]⟩
    | _ => none
  cps x k := k (.exit 0) [.po 0 0 0, .os 2 0 x.r.length] [some x.a.b, none, some (lL x.r)]
theorem par_tree (a : At) (n : Nat) (w : Nat → Int) (K : Ex → Nat → List DV → List DV → DHeap → Option Unit) (i : Nat) (hi : i < 8) :
    execD Tryd.prog (env [] noLp 0) (loopAt Tryd.f17 58) 500 (temps 33 [1, 3, 7, 8] [.po 0 0 0, .os 2 0 n, codesD, iv i]) [some a.b, none, some (lB n w)] (fun e τ σ => K e τ.length (pick [1, 3, 7, 8] τ) (pick [1, 3] τ) σ) =
      bif bandF a.f (p2 i) != 0 then
        bif decide (n ≤ n) then
          bif decide ((n + 1) * 8 ≤ 140737488355328) then
            K .normal 33 [.po 0 0 0, .os 4 0 (n + 1), codesD, iv ((i + 1 : Nat) : Int)] [.po 0 0 0, .os 4 0 (n + 1)] [some a.b, none, none, some ⟨1, .lst [[iv (codeN i)]]⟩, some ⟨1, .app (.pre (.tab n (ints w)) n) (.lst [[iv (codeN i)]])⟩]
          else none
        else none
      else K .normal 33 [.po 0 0 0, .os 2 0 n, codesD, iv ((i + 1 : Nat) : Int)] [.po 0 0 0, .os 2 0 n] [some a.b, none, some (lB n w)] := by
  have h : i = 0 ∨ i = 1 ∨ i = 2 ∨ i = 3 ∨ i = 4 ∨ i = 5 ∨ i = 6 ∨ i = 7 := by omega
  rcases h with rfl | rfl | rfl | rfl | rfl | rfl | rfl | rfl <;> (show _ = _; kernel_rfl)
theorem par_end (a : At) (n : Nat) (w : Nat → Int) (K : Ex → Nat → List DV → List DV → DHeap → Option Unit) :
    execD Tryd.prog (env [] noLp 0) (loopAt Tryd.f17 58) 500 (temps 33 [1, 3, 7, 8] [.po 0 0 0, .os 2 0 n, codesD, iv ((8 : Nat) : Int)]) [some a.b, none, some (lB n w)] (fun e τ σ => K e τ.length (pick [1, 3, 7, 8] τ) (pick [1, 3] τ) σ) =
      K (.exit 0) 33 [.po 0 0 0, .os 2 0 n, codesD, iv ((8 : Nat) : Int)] [.po 0 0 0, .os 2 0 n] [some a.b, none, some (lB n w)] := by
  kernel_rfl
theorem par_ls {st : AE.Stat} (hst : CodesIn st) : LoopS Tryd.prog st gl0 (.loop (loopAt Tryd.f17 58)) parI.g := by
  refine parI.ok (E := env [] noLp 0) (p := 500) (tblD_env (l := []) (fun _ h => nomatch h)) (glOk hst).1 (fun _ _ _ h => nomatch h) (fun x k h => h) fun x hx => ?_
  obtain ⟨a, f, i, L⟩ := x
  obtain ⟨h1, h2⟩ : i ≤ 8 ∧ L.length ≤ i + 1 := hx
  rcases Nat.lt_or_ge i 8 with hlt | hge
  · refine (par_tree a L.length (lw L) _ i hlt).trans ?_
    obtain ⟨m, hm⟩ : ∃ m, 8 - i = m + 1 := ⟨7 - i, by omega⟩
    refine cS (fun h => ?_) fun h => ?_
    · have h : ¬ bandF a.f (p2 i) = 0 := by simpa using h
      refine dT (Nat.le_refl _) (dT (by omega) ?_)
      have e : PX.r ⟨a, f, i + 1, L ++ [codeN i]⟩ = PX.r ⟨a, f, i, L⟩ := by
        simp only [PX.r, hm, bitsP, if_neg h, show 8 - (i + 1) = m by omega]
      refine LInv.ask_of ⟨rfl, ⟨a, f, i + 1, L ++ [codeN i]⟩, ⟨rfl, ?_, ?_, hlt, ?_⟩, ?_, [4], ?_⟩
      · simp only [parI, e]
      · simp only [parI, e]
      · simp only [List.length_append, List.length_cons, List.length_nil]; omega
      · simp only [parI]; omega
      · show WkP 2 [4] _ _ [.po 0 0 0, .os 2 0 (L ++ [codeN i]).length, codesD, iv ((i + 1 : Nat) : Int)] [some a.b, none, some (lL (L ++ [codeN i]))]
        rw [show (L ++ [codeN i]).length = L.length + 1 by simp]
        exact .of (im := [some 0, some 4]) (.cons (.po rfl) (.cons (.os rfl) (.cons (.of_clo codesClo) (.cons (.v _) .nil)))) rfl ⟨⟨0, _, rfl, rfl, subA⟩, ⟨4, _, rfl, rfl, (Has.app rfl .tab (.one rfl)).sub⟩, trivial⟩ rfl (by decide)
    · have h : bandF a.f (p2 i) = 0 := by simpa using h
      have e : PX.r ⟨a, f, i + 1, L⟩ = PX.r ⟨a, f, i, L⟩ := by
        simp only [PX.r, hm, bitsP, if_pos h, show 8 - (i + 1) = m by omega]
      refine LInv.ask_of ⟨rfl, ⟨a, f, i + 1, L⟩, ⟨rfl, ?_, ?_, hlt, ?_⟩, ?_, [2], ?_⟩
      · simp only [parI, e]
      · simp only [parI, e]
      · show L.length ≤ i + 1 + 1; omega
      · simp only [parI]; omega
      · exact .of (im := [some 0, some 2]) (.cons (.po rfl) (.cons (.os rfl) (.cons (.of_clo codesClo) (.cons (.v _) .nil)))) rfl ⟨⟨0, _, rfl, rfl, subA⟩, ⟨2, _, rfl, rfl, Has.tab.sub⟩, trivial⟩ rfl (by decide)
  · obtain rfl : i = 8 := by omega
    refine (par_end a L.length (lw L) _).trans ?_
    exact LInv.ask_of ⟨rfl, rfl, [2], .of (im := [some 0, some 2]) (.cons (.po rfl) (.cons (.os rfl) .nil)) rfl ⟨⟨0, _, rfl, rfl, subA⟩, ⟨2, _, rfl, rfl, Has.tab.sub⟩, trivial⟩ rfl (by decide)⟩

theorem par_fun (x y f : Int) (k : DV → DHeap → Option Unit) : bodyD Tryd.prog (env [(30, chooseC)] (lpOf [(58, parI.g)]) 0) Tryd.f17 [.agg [iv x, iv y, iv f]] [] k =
    bif
        holds
          (LInv.pre parI { a := { x := x, y := y, f := f }, f := (0 : Int), i := (0 : Nat), L := [(0 : Int)] } ∧
            ∃ ids,
              WkP (2 : Nat) ids
                [DV.po (0 : Nat) (0 : Nat) (0 : Nat), DV.os (1 : Nat) (0 : Nat) (1 : Nat),
                  DV.agg
                    [DV.v (Value.int IntKind.i64 (1 : Int)), DV.v (Value.int IntKind.i64 (2 : Int)),
                      DV.v (Value.int IntKind.i64 (3 : Int)), DV.v (Value.int IntKind.i64 (4 : Int)),
                      DV.v (Value.int IntKind.i64 (5 : Int)), DV.v (Value.int IntKind.i64 (7 : Int)),
                      DV.v (Value.int IntKind.i64 (8 : Int)), DV.v (Value.int IntKind.i64 (9 : Int))],
                  DV.v (Value.int IntKind.i64 (0 : Int))]
                [some
                    { k := (3 : Nat),
                      c :=
                        DC.lst
                          [[DV.v (Value.int IntKind.i64 x), DV.v (Value.int IntKind.i64 y),
                              DV.v (Value.int IntKind.i64 f)]] },
                  some { k := (1 : Nat), c := DC.lst [[DV.v (Value.int IntKind.i64 (0 : Int))]] }]
                [DV.po (0 : Nat) (0 : Nat) (0 : Nat), DV.os (2 : Nat) (0 : Nat) (1 : Nat),
                  DV.agg
                    [DV.v (Value.int IntKind.i64 (1 : Int)), DV.v (Value.int IntKind.i64 (2 : Int)),
                      DV.v (Value.int IntKind.i64 (3 : Int)), DV.v (Value.int IntKind.i64 (4 : Int)),
                      DV.v (Value.int IntKind.i64 (5 : Int)), DV.v (Value.int IntKind.i64 (7 : Int)),
                      DV.v (Value.int IntKind.i64 (8 : Int)), DV.v (Value.int IntKind.i64 (9 : Int))],
                  DV.v (Value.int IntKind.i64 (0 : Int))]
                [some
                    { k := (3 : Nat),
                      c :=
                        DC.lst
                          [[DV.v (Value.int IntKind.i64 x), DV.v (Value.int IntKind.i64 y),
                              DV.v (Value.int IntKind.i64 f)]] },
                  none,
                  some
                    { k := (1 : Nat),
                      c := DC.tab (1 : Nat) fun a a_1 => DV.v (Value.int IntKind.i64 (lw [(0 : Int)] a)) }]) then
      bif holds (x ≤ (1000000 : Int) ∧ (0 : Int) ≤ (30 : Int) ∧ (30 : Int) ≤ (1000 : Int)) then
        bif decide (x < (0 : Int)) then
          bif
              decide
                (List.length (PX.r { a := { x := x, y := y, f := f }, f := (0 : Int), i := (0 : Nat), L := [(0 : Int)] }) ≤
                  DC.n
                    (DBlk.c
                      (lL
                        (PX.r { a := { x := x, y := y, f := f }, f := (0 : Int), i := (0 : Nat), L := [(0 : Int)] })))) then
            bif
                decide
                  ((List.length
                          (PX.r { a := { x := x, y := y, f := f }, f := (0 : Int), i := (0 : Nat), L := [(0 : Int)] }) +
                        (0 : Nat)) *
                      (8 : Nat) ≤
                    (140737488355328 : Nat)) then
              bif holds (y ≤ (1000000 : Int) ∧ (0 : Int) ≤ (40 : Int) ∧ (40 : Int) ≤ (1000 : Int)) then
                bif decide (y < (0 : Int)) then
                  bif
                      decide
                        (List.length
                              (PX.r { a := { x := x, y := y, f := f }, f := (0 : Int), i := (0 : Nat), L := [(0 : Int)] }) +
                            (0 : Nat) ≤
                          DC.n
                            (appC
                              (DBlk.c
                                (lL
                                  (PX.r
                                    { a := { x := x, y := y, f := f }, f := (0 : Int), i := (0 : Nat), L := [(0 : Int)] })))
                              (List.length
                                (PX.r
                                  { a := { x := x, y := y, f := f }, f := (0 : Int), i := (0 : Nat), L := [(0 : Int)] }))
                              (DC.lst []))) then
                    bif
                        decide
                          ((List.length
                                    (PX.r
                                      { a := { x := x, y := y, f := f }, f := (0 : Int), i := (0 : Nat),
                                        L := [(0 : Int)] }) +
                                  (0 : Nat) +
                                (0 : Nat)) *
                              (8 : Nat) ≤
                            (140737488355328 : Nat)) then
                      k
                        (DV.os (4 : Nat) (0 : Nat)
                          (List.length
                                (PX.r
                                  { a := { x := x, y := y, f := f }, f := (0 : Int), i := (0 : Nat), L := [(0 : Int)] }) +
                              (0 : Nat) +
                            (0 : Nat)))
                        [some
                            { k := (3 : Nat),
                              c :=
                                DC.lst
                                  [[DV.v (Value.int IntKind.i64 x), DV.v (Value.int IntKind.i64 y),
                                      DV.v (Value.int IntKind.i64 f)]] },
                          none, none, none,
                          some
                            { k := (1 : Nat),
                              c :=
                                DC.app
                                  (DC.pre
                                    (DC.app
                                      (DC.pre
                                        (DC.tab
                                          (List.length
                                            (PX.r
                                              { a := { x := x, y := y, f := f }, f := (0 : Int), i := (0 : Nat),
                                                L := [(0 : Int)] }))
                                          fun a a_1 =>
                                          DV.v
                                            (Value.int IntKind.i64
                                              (lw
                                                (PX.r
                                                  { a := { x := x, y := y, f := f }, f := (0 : Int), i := (0 : Nat),
                                                    L := [(0 : Int)] })
                                                a)))
                                        (List.length
                                          (PX.r
                                            { a := { x := x, y := y, f := f }, f := (0 : Int), i := (0 : Nat),
                                              L := [(0 : Int)] })))
                                      (DC.lst []))
                                    (List.length
                                        (PX.r
                                          { a := { x := x, y := y, f := f }, f := (0 : Int), i := (0 : Nat),
                                            L := [(0 : Int)] }) +
                                      (0 : Nat)))
                                  (DC.lst []) }]
                    else none
                  else none
                else
                  bif
                      decide
                        ((0 : Nat) + List.length (chooseL y (40 : Int)) ≤ DC.n (DBlk.c (lL (chooseL y (40 : Int))))) then
                    bif
                        decide
                          (List.length
                                (PX.r
                                  { a := { x := x, y := y, f := f }, f := (0 : Int), i := (0 : Nat), L := [(0 : Int)] }) +
                              (0 : Nat) ≤
                            DC.n
                              (appC
                                (DBlk.c
                                  (lL
                                    (PX.r
                                      { a := { x := x, y := y, f := f }, f := (0 : Int), i := (0 : Nat),
                                        L := [(0 : Int)] })))
                                (List.length
                                  (PX.r
                                    { a := { x := x, y := y, f := f }, f := (0 : Int), i := (0 : Nat), L := [(0 : Int)] }))
                                (DC.lst []))) then
                      bif
                          decide
                            ((List.length
                                      (PX.r
                                        { a := { x := x, y := y, f := f }, f := (0 : Int), i := (0 : Nat),
                                          L := [(0 : Int)] }) +
                                    (0 : Nat) +
                                  List.length (chooseL y (40 : Int))) *
                                (8 : Nat) ≤
                              (140737488355328 : Nat)) then
                        k
                          (DV.os (5 : Nat) (0 : Nat)
                            (List.length
                                  (PX.r
                                    { a := { x := x, y := y, f := f }, f := (0 : Int), i := (0 : Nat), L := [(0 : Int)] }) +
                                (0 : Nat) +
                              List.length (chooseL y (40 : Int))))
                          [some
                              { k := (3 : Nat),
                                c :=
                                  DC.lst
                                    [[DV.v (Value.int IntKind.i64 x), DV.v (Value.int IntKind.i64 y),
                                        DV.v (Value.int IntKind.i64 f)]] },
                            none, none, none,
                            some
                              { k := (1 : Nat),
                                c :=
                                  DC.tab (List.length (chooseL y (40 : Int))) fun a a_1 =>
                                    DV.v (Value.int IntKind.i64 (lw (chooseL y (40 : Int)) a)) },
                            some
                              { k := (1 : Nat),
                                c :=
                                  DC.app
                                    (DC.pre
                                      (DC.app
                                        (DC.pre
                                          (DC.tab
                                            (List.length
                                              (PX.r
                                                { a := { x := x, y := y, f := f }, f := (0 : Int), i := (0 : Nat),
                                                  L := [(0 : Int)] }))
                                            fun a a_1 =>
                                            DV.v
                                              (Value.int IntKind.i64
                                                (lw
                                                  (PX.r
                                                    { a := { x := x, y := y, f := f }, f := (0 : Int), i := (0 : Nat),
                                                      L := [(0 : Int)] })
                                                  a)))
                                          (List.length
                                            (PX.r
                                              { a := { x := x, y := y, f := f }, f := (0 : Int), i := (0 : Nat),
                                                L := [(0 : Int)] })))
                                        (DC.lst []))
                                      (List.length
                                          (PX.r
                                            { a := { x := x, y := y, f := f }, f := (0 : Int), i := (0 : Nat),
                                              L := [(0 : Int)] }) +
                                        (0 : Nat)))
                                    (DC.tab (List.length (chooseL y (40 : Int))) fun j f =>
                                      DV.v (Value.int IntKind.i64 (lw (chooseL y (40 : Int)) ((0 : Nat) + j)))) }]
                      else none
                    else none
                  else none
              else none
            else none
          else none
        else
          bif decide ((0 : Nat) + List.length (chooseL x (30 : Int)) ≤ DC.n (DBlk.c (lL (chooseL x (30 : Int))))) then
            bif
                decide
                  (List.length
                      (PX.r { a := { x := x, y := y, f := f }, f := (0 : Int), i := (0 : Nat), L := [(0 : Int)] }) ≤
                    DC.n
                      (DBlk.c
                        (lL
                          (PX.r
                            { a := { x := x, y := y, f := f }, f := (0 : Int), i := (0 : Nat), L := [(0 : Int)] })))) then
              bif
                  decide
                    ((List.length
                            (PX.r { a := { x := x, y := y, f := f }, f := (0 : Int), i := (0 : Nat), L := [(0 : Int)] }) +
                          List.length (chooseL x (30 : Int))) *
                        (8 : Nat) ≤
                      (140737488355328 : Nat)) then
                bif holds (y ≤ (1000000 : Int) ∧ (0 : Int) ≤ (40 : Int) ∧ (40 : Int) ≤ (1000 : Int)) then
                  bif decide (y < (0 : Int)) then
                    bif
                        decide
                          (List.length
                                (PX.r
                                  { a := { x := x, y := y, f := f }, f := (0 : Int), i := (0 : Nat), L := [(0 : Int)] }) +
                              List.length (chooseL x (30 : Int)) ≤
                            DC.n
                              (appC
                                (DBlk.c
                                  (lL
                                    (PX.r
                                      { a := { x := x, y := y, f := f }, f := (0 : Int), i := (0 : Nat),
                                        L := [(0 : Int)] })))
                                (List.length
                                  (PX.r
                                    { a := { x := x, y := y, f := f }, f := (0 : Int), i := (0 : Nat), L := [(0 : Int)] }))
                                (subC (DBlk.c (lL (chooseL x (30 : Int)))) (0 : Nat)
                                  (List.length (chooseL x (30 : Int)))))) then
                      bif
                          decide
                            ((List.length
                                      (PX.r
                                        { a := { x := x, y := y, f := f }, f := (0 : Int), i := (0 : Nat),
                                          L := [(0 : Int)] }) +
                                    List.length (chooseL x (30 : Int)) +
                                  (0 : Nat)) *
                                (8 : Nat) ≤
                              (140737488355328 : Nat)) then
                        k
                          (DV.os (5 : Nat) (0 : Nat)
                            (List.length
                                  (PX.r
                                    { a := { x := x, y := y, f := f }, f := (0 : Int), i := (0 : Nat), L := [(0 : Int)] }) +
                                List.length (chooseL x (30 : Int)) +
                              (0 : Nat)))
                          [some
                              { k := (3 : Nat),
                                c :=
                                  DC.lst
                                    [[DV.v (Value.int IntKind.i64 x), DV.v (Value.int IntKind.i64 y),
                                        DV.v (Value.int IntKind.i64 f)]] },
                            none, none,
                            some
                              { k := (1 : Nat),
                                c :=
                                  DC.tab (List.length (chooseL x (30 : Int))) fun a a_1 =>
                                    DV.v (Value.int IntKind.i64 (lw (chooseL x (30 : Int)) a)) },
                            none,
                            some
                              { k := (1 : Nat),
                                c :=
                                  DC.app
                                    (DC.pre
                                      (DC.app
                                        (DC.pre
                                          (DC.tab
                                            (List.length
                                              (PX.r
                                                { a := { x := x, y := y, f := f }, f := (0 : Int), i := (0 : Nat),
                                                  L := [(0 : Int)] }))
                                            fun a a_1 =>
                                            DV.v
                                              (Value.int IntKind.i64
                                                (lw
                                                  (PX.r
                                                    { a := { x := x, y := y, f := f }, f := (0 : Int), i := (0 : Nat),
                                                      L := [(0 : Int)] })
                                                  a)))
                                          (List.length
                                            (PX.r
                                              { a := { x := x, y := y, f := f }, f := (0 : Int), i := (0 : Nat),
                                                L := [(0 : Int)] })))
                                        (DC.tab (List.length (chooseL x (30 : Int))) fun j f =>
                                          DV.v (Value.int IntKind.i64 (lw (chooseL x (30 : Int)) ((0 : Nat) + j)))))
                                      (List.length
                                          (PX.r
                                            { a := { x := x, y := y, f := f }, f := (0 : Int), i := (0 : Nat),
                                              L := [(0 : Int)] }) +
                                        List.length (chooseL x (30 : Int))))
                                    (DC.lst []) }]
                      else none
                    else none
                  else
                    bif
                        decide
                          ((0 : Nat) + List.length (chooseL y (40 : Int)) ≤ DC.n (DBlk.c (lL (chooseL y (40 : Int))))) then
                      bif
                          decide
                            (List.length
                                  (PX.r
                                    { a := { x := x, y := y, f := f }, f := (0 : Int), i := (0 : Nat), L := [(0 : Int)] }) +
                                List.length (chooseL x (30 : Int)) ≤
                              DC.n
                                (appC
                                  (DBlk.c
                                    (lL
                                      (PX.r
                                        { a := { x := x, y := y, f := f }, f := (0 : Int), i := (0 : Nat),
                                          L := [(0 : Int)] })))
                                  (List.length
                                    (PX.r
                                      { a := { x := x, y := y, f := f }, f := (0 : Int), i := (0 : Nat),
                                        L := [(0 : Int)] }))
                                  (subC (DBlk.c (lL (chooseL x (30 : Int)))) (0 : Nat)
                                    (List.length (chooseL x (30 : Int)))))) then
                        bif
                            decide
                              ((List.length
                                        (PX.r
                                          { a := { x := x, y := y, f := f }, f := (0 : Int), i := (0 : Nat),
                                            L := [(0 : Int)] }) +
                                      List.length (chooseL x (30 : Int)) +
                                    List.length (chooseL y (40 : Int))) *
                                  (8 : Nat) ≤
                                (140737488355328 : Nat)) then
                          k
                            (DV.os (6 : Nat) (0 : Nat)
                              (List.length
                                    (PX.r
                                      { a := { x := x, y := y, f := f }, f := (0 : Int), i := (0 : Nat),
                                        L := [(0 : Int)] }) +
                                  List.length (chooseL x (30 : Int)) +
                                List.length (chooseL y (40 : Int))))
                            [some
                                { k := (3 : Nat),
                                  c :=
                                    DC.lst
                                      [[DV.v (Value.int IntKind.i64 x), DV.v (Value.int IntKind.i64 y),
                                          DV.v (Value.int IntKind.i64 f)]] },
                              none, none,
                              some
                                { k := (1 : Nat),
                                  c :=
                                    DC.tab (List.length (chooseL x (30 : Int))) fun a a_1 =>
                                      DV.v (Value.int IntKind.i64 (lw (chooseL x (30 : Int)) a)) },
                              none,
                              some
                                { k := (1 : Nat),
                                  c :=
                                    DC.tab (List.length (chooseL y (40 : Int))) fun a a_1 =>
                                      DV.v (Value.int IntKind.i64 (lw (chooseL y (40 : Int)) a)) },
                              some
                                { k := (1 : Nat),
                                  c :=
                                    DC.app
                                      (DC.pre
                                        (DC.app
                                          (DC.pre
                                            (DC.tab
                                              (List.length
                                                (PX.r
                                                  { a := { x := x, y := y, f := f }, f := (0 : Int), i := (0 : Nat),
                                                    L := [(0 : Int)] }))
                                              fun a a_1 =>
                                              DV.v
                                                (Value.int IntKind.i64
                                                  (lw
                                                    (PX.r
                                                      { a := { x := x, y := y, f := f }, f := (0 : Int), i := (0 : Nat),
                                                        L := [(0 : Int)] })
                                                    a)))
                                            (List.length
                                              (PX.r
                                                { a := { x := x, y := y, f := f }, f := (0 : Int), i := (0 : Nat),
                                                  L := [(0 : Int)] })))
                                          (DC.tab (List.length (chooseL x (30 : Int))) fun j f =>
                                            DV.v (Value.int IntKind.i64 (lw (chooseL x (30 : Int)) ((0 : Nat) + j)))))
                                        (List.length
                                            (PX.r
                                              { a := { x := x, y := y, f := f }, f := (0 : Int), i := (0 : Nat),
                                                L := [(0 : Int)] }) +
                                          List.length (chooseL x (30 : Int))))
                                      (DC.tab (List.length (chooseL y (40 : Int))) fun j f =>
                                        DV.v (Value.int IntKind.i64 (lw (chooseL y (40 : Int)) ((0 : Nat) + j)))) }]
                        else none
                      else none
                    else none
                else none
              else none
            else none
          else none
      else none
    else none := by
  kernel_rfl

/-- The reference's flags. -/
def halfF (f : Int) : Int := IntKind.i64.wrap (Int.tdiv f 2)
def bitsR : Nat → Nat → Int → List Int → List Int
  | 0, _, _, L => L
  | m + 1, i, f, L => bitsR m (i + 1) (halfF f) (if Int.tmod f 2 = 1 then L ++ [codeZ i] else L)
def PX.q (x : PX) : List Int := bitsR (8 - x.i) x.i x.f x.L
def rparI : LInv PX where
  pre x := x.i ≤ 8 ∧ x.L.length ≤ x.i + 1
  m := 2
  n := 33
  ps := [1, 3, 4, 5]
  sd x := [.po 0 0 0, .os 2 0 x.L.length, iv x.f, iv x.i]
  sh x := [some x.a.b, none, some (lL x.L)]
  meas x := 8 - x.i
  e _ := .exit 0
  qs := [1, 3]
  od x := [.po 0 0 0, .os 2 0 x.q.length]
  oh x := [some x.a.b, none, some (lL x.q)]
  guess ds σ := match ds, σ with
    | [_, _, .v (.int _ g), _], some ⟨_, .lst [[.v (.int _ x), .v (.int _ y), .v (.int _ f)]]⟩ :: _ => some ⟨⟨x, y, f⟩, g, 0, [0]⟩
    | _, _ => none
  cps x k := k (.exit 0) [.po 0 0 0, .os 2 0 x.q.length] [some x.a.b, none, some (lL x.q)]
theorem rpar_tree (a : At) (f : Int) (n i : Nat) (w : Nat → Int) (K : Ex → Nat → List DV → List DV → DHeap → Option Unit) : execD Tryd.prog (env [(31, codeC)] noLp 0) (loopAt Tryd.f18 122) 500 (temps 33 [1, 3, 4, 5] [.po 0 0 0, .os 2 0 n, iv f, iv i]) [some a.b, none, some (lB n w)] (fun e τ σ => K e τ.length (pick [1, 3, 4, 5] τ) (pick [1, 3] τ) σ) =
    bif decide ((↑i : Int) < (8 : Int)) then
      bif Int.tmod f (2 : Int) == (1 : Int) then
        bif holds ((0 : Int) ≤ (↑i : Int) ∧ (↑i : Int) < (8 : Int)) then
          bif decide (n ≤ DC.n (DBlk.c (lB n w))) then
            bif decide ((n + (1 : Nat)) * (8 : Nat) ≤ (140737488355328 : Nat)) then
              K Ex.normal (33 : Nat)
                [DV.po (0 : Nat) (0 : Nat) (0 : Nat), DV.os (4 : Nat) (0 : Nat) (n + (1 : Nat)),
                  DV.v (Value.int IntKind.i64 (IntKind.wrap IntKind.i64 (Int.tdiv f (2 : Int)))),
                  DV.v (Value.int IntKind.i64 (IntKind.wrap IntKind.i64 ((↑i : Int) + (1 : Int))))]
                [DV.po (0 : Nat) (0 : Nat) (0 : Nat), DV.os (4 : Nat) (0 : Nat) (n + (1 : Nat))]
                [some
                    { k := (3 : Nat),
                      c :=
                        DC.lst
                          [[DV.v (Value.int IntKind.i64 (At.x a)), DV.v (Value.int IntKind.i64 (At.y a)),
                              DV.v (Value.int IntKind.i64 (At.f a))]] },
                  none, none, some { k := (1 : Nat), c := DC.lst [[DV.v (Value.int IntKind.i64 (codeZ (↑i : Int)))]] },
                  some
                    { k := (1 : Nat),
                      c :=
                        DC.app (DC.pre (DC.tab n fun a a_1 => DV.v (Value.int IntKind.i64 (w a))) n)
                          (DC.lst [[DV.v (Value.int IntKind.i64 (codeZ (↑i : Int)))]]) }]
            else none
          else none
        else none
      else
        K Ex.normal (33 : Nat)
          [DV.po (0 : Nat) (0 : Nat) (0 : Nat), DV.os (2 : Nat) (0 : Nat) n,
            DV.v (Value.int IntKind.i64 (IntKind.wrap IntKind.i64 (Int.tdiv f (2 : Int)))),
            DV.v (Value.int IntKind.i64 (IntKind.wrap IntKind.i64 ((↑i : Int) + (1 : Int))))]
          [DV.po (0 : Nat) (0 : Nat) (0 : Nat), DV.os (2 : Nat) (0 : Nat) n]
          [some
              { k := (3 : Nat),
                c :=
                  DC.lst
                    [[DV.v (Value.int IntKind.i64 (At.x a)), DV.v (Value.int IntKind.i64 (At.y a)),
                        DV.v (Value.int IntKind.i64 (At.f a))]] },
            none, some { k := (1 : Nat), c := DC.tab n fun a a_1 => DV.v (Value.int IntKind.i64 (w a)) }]
    else
      K (Ex.exit (0 : Nat)) (33 : Nat)
        [DV.po (0 : Nat) (0 : Nat) (0 : Nat), DV.os (2 : Nat) (0 : Nat) n, DV.v (Value.int IntKind.i64 f),
          DV.v (Value.int IntKind.i64 (↑i : Int))]
        [DV.po (0 : Nat) (0 : Nat) (0 : Nat), DV.os (2 : Nat) (0 : Nat) n]
        [some
            { k := (3 : Nat),
              c :=
                DC.lst
                  [[DV.v (Value.int IntKind.i64 (At.x a)), DV.v (Value.int IntKind.i64 (At.y a)),
                      DV.v (Value.int IntKind.i64 (At.f a))]] },
          none, some { k := (1 : Nat), c := DC.tab n fun a a_1 => DV.v (Value.int IntKind.i64 (w a)) }] := by
  kernel_rfl
theorem rpar_ls {st : AE.Stat} (hst : CodesIn st) : LoopS Tryd.prog st gl0 (.loop (loopAt Tryd.f18 122)) rparI.g := by
  have hl : ∀ x ∈ [((31 : FuncId), codeC)], ConOk Tryd.prog st x.1 x.2 := fun x hx => by
    obtain rfl : x = (31, codeC) := by simpa using hx
    exact code_ok hst
  refine rparI.ok (E := env [(31, codeC)] noLp 0) (p := 500) (tblD_env hl) (glOk hst).1 (fun _ _ _ h => nomatch h) (fun x k h => h) fun x hx => ?_
  obtain ⟨a, f, i, L⟩ := x
  obtain ⟨h1, h2⟩ : i ≤ 8 ∧ L.length ≤ i + 1 := hx
  refine (rpar_tree a f L.length i (lw L) _).trans ?_
  have hW : IntKind.i64.wrap ((i : Int) + 1) = ((i + 1 : Nat) : Int) := by rw [W_in (by omega) (by omega)]; omega
  simp only [hW]
  refine dS (fun hlt => ?_) fun hge => ?_
  · obtain ⟨m, hm⟩ : ∃ m, 8 - i = m + 1 := ⟨7 - i, by omega⟩
    refine cS (fun h => ?_) fun h => ?_
    · have h : Int.tmod f 2 = 1 := by simpa using h
      refine hT (by omega) (dT (Nat.le_refl _) (dT (by omega) ?_))
      have e : PX.q ⟨a, halfF f, i + 1, L ++ [codeZ i]⟩ = PX.q ⟨a, f, i, L⟩ := by
        simp only [PX.q, hm, bitsR, if_pos h, show 8 - (i + 1) = m by omega]
      refine LInv.ask_of ⟨rfl, ⟨a, halfF f, i + 1, L ++ [codeZ i]⟩, ⟨rfl, ?_, ?_, by show i + 1 ≤ 8; omega, ?_⟩, ?_, [4], ?_⟩
      · simp only [rparI, e]
      · simp only [rparI, e]
      · simp only [List.length_append, List.length_cons, List.length_nil]; omega
      · simp only [rparI]; omega
      · show WkP 2 [4] _ _ [.po 0 0 0, .os 2 0 (L ++ [codeZ i]).length, iv (halfF f), iv ((i + 1 : Nat) : Int)] [some a.b, none, some (lL (L ++ [codeZ i]))]
        rw [show (L ++ [codeZ i]).length = L.length + 1 by simp]
        exact .of (im := [some 0, some 4]) (.cons (.po rfl) (.cons (.os rfl) (.cons (.v _) (.cons (.v _) .nil)))) rfl ⟨⟨0, _, rfl, rfl, subA⟩, ⟨4, _, rfl, rfl, (Has.app rfl .tab (.one rfl)).sub⟩, trivial⟩ rfl (by decide)
    · have h : ¬ Int.tmod f 2 = 1 := by simpa using h
      have e : PX.q ⟨a, halfF f, i + 1, L⟩ = PX.q ⟨a, f, i, L⟩ := by
        simp only [PX.q, hm, bitsR, if_neg h, show 8 - (i + 1) = m by omega]
      refine LInv.ask_of ⟨rfl, ⟨a, halfF f, i + 1, L⟩, ⟨rfl, ?_, ?_, by show i + 1 ≤ 8; omega, ?_⟩, ?_, [2], ?_⟩
      · simp only [rparI, e]
      · simp only [rparI, e]
      · show L.length ≤ i + 1 + 1; omega
      · simp only [rparI]; omega
      · exact .of (im := [some 0, some 2]) (.cons (.po rfl) (.cons (.os rfl) (.cons (.v _) (.cons (.v _) .nil)))) rfl ⟨⟨0, _, rfl, rfl, subA⟩, ⟨2, _, rfl, rfl, Has.tab.sub⟩, trivial⟩ rfl (by decide)
  · obtain rfl : i = 8 := by omega
    exact LInv.ask_of ⟨rfl, rfl, [2], .of (im := [some 0, some 2]) (.cons (.po rfl) (.cons (.os rfl) .nil)) rfl ⟨⟨0, _, rfl, rfl, subA⟩, ⟨2, _, rfl, rfl, Has.tab.sub⟩, trivial⟩ rfl (by decide)⟩
theorem rpar_fun (x y f : Int) (k : DV → DHeap → Option Unit) : bodyD Tryd.prog (env [(32, paintC)] (lpOf [(122, rparI.g)]) 0) Tryd.f18 [.agg [iv x, iv y, iv f]] [] k =
    bif
        holds
          (LInv.pre rparI { a := { x := x, y := y, f := f }, f := f, i := (0 : Nat), L := [(0 : Int)] } ∧
            ∃ ids,
              WkP (2 : Nat) ids
                [DV.po (0 : Nat) (0 : Nat) (0 : Nat), DV.os (1 : Nat) (0 : Nat) (1 : Nat), DV.v (Value.int IntKind.i64 f),
                  DV.v (Value.int IntKind.i64 (0 : Int))]
                [some
                    { k := (3 : Nat),
                      c :=
                        DC.lst
                          [[DV.v (Value.int IntKind.i64 x), DV.v (Value.int IntKind.i64 y),
                              DV.v (Value.int IntKind.i64 f)]] },
                  some { k := (1 : Nat), c := DC.lst [[DV.v (Value.int IntKind.i64 (0 : Int))]] }]
                [DV.po (0 : Nat) (0 : Nat) (0 : Nat), DV.os (2 : Nat) (0 : Nat) (1 : Nat), DV.v (Value.int IntKind.i64 f),
                  DV.v (Value.int IntKind.i64 (0 : Int))]
                [some
                    { k := (3 : Nat),
                      c :=
                        DC.lst
                          [[DV.v (Value.int IntKind.i64 x), DV.v (Value.int IntKind.i64 y),
                              DV.v (Value.int IntKind.i64 f)]] },
                  none,
                  some
                    { k := (1 : Nat),
                      c := DC.tab (1 : Nat) fun a a_1 => DV.v (Value.int IntKind.i64 (lw [(0 : Int)] a)) }]) then
      bif
          holds
            (x ≤ (1000000 : Int) ∧
              (0 : Int) ≤ (30 : Int) ∧ (30 : Int) ≤ (1000 : Int) ∧ (0 : Int) ≤ (82 : Int) ∧ (82 : Int) ≤ (1000 : Int)) then
        bif decide (x < (0 : Int)) then
          bif
              decide
                (List.length (PX.q { a := { x := x, y := y, f := f }, f := f, i := (0 : Nat), L := [(0 : Int)] }) ≤
                  DC.n
                    (DBlk.c (lL (PX.q { a := { x := x, y := y, f := f }, f := f, i := (0 : Nat), L := [(0 : Int)] })))) then
            bif
                decide
                  ((List.length (PX.q { a := { x := x, y := y, f := f }, f := f, i := (0 : Nat), L := [(0 : Int)] }) +
                        (0 : Nat)) *
                      (8 : Nat) ≤
                    (140737488355328 : Nat)) then
              bif
                  holds
                    (y ≤ (1000000 : Int) ∧
                      (0 : Int) ≤ (40 : Int) ∧
                        (40 : Int) ≤ (1000 : Int) ∧ (0 : Int) ≤ (92 : Int) ∧ (92 : Int) ≤ (1000 : Int)) then
                bif decide (y < (0 : Int)) then
                  bif
                      decide
                        (List.length (PX.q { a := { x := x, y := y, f := f }, f := f, i := (0 : Nat), L := [(0 : Int)] }) +
                            (0 : Nat) ≤
                          DC.n
                            (appC
                              (DBlk.c
                                (lL (PX.q { a := { x := x, y := y, f := f }, f := f, i := (0 : Nat), L := [(0 : Int)] })))
                              (List.length
                                (PX.q { a := { x := x, y := y, f := f }, f := f, i := (0 : Nat), L := [(0 : Int)] }))
                              (DC.lst []))) then
                    bif
                        decide
                          ((List.length
                                    (PX.q { a := { x := x, y := y, f := f }, f := f, i := (0 : Nat), L := [(0 : Int)] }) +
                                  (0 : Nat) +
                                (0 : Nat)) *
                              (8 : Nat) ≤
                            (140737488355328 : Nat)) then
                      k
                        (DV.os (4 : Nat) (0 : Nat)
                          (List.length
                                (PX.q { a := { x := x, y := y, f := f }, f := f, i := (0 : Nat), L := [(0 : Int)] }) +
                              (0 : Nat) +
                            (0 : Nat)))
                        [some
                            { k := (3 : Nat),
                              c :=
                                DC.lst
                                  [[DV.v (Value.int IntKind.i64 x), DV.v (Value.int IntKind.i64 y),
                                      DV.v (Value.int IntKind.i64 f)]] },
                          none, none, none,
                          some
                            { k := (1 : Nat),
                              c :=
                                DC.app
                                  (DC.pre
                                    (DC.app
                                      (DC.pre
                                        (DC.tab
                                          (List.length
                                            (PX.q
                                              { a := { x := x, y := y, f := f }, f := f, i := (0 : Nat),
                                                L := [(0 : Int)] }))
                                          fun a a_1 =>
                                          DV.v
                                            (Value.int IntKind.i64
                                              (lw
                                                (PX.q
                                                  { a := { x := x, y := y, f := f }, f := f, i := (0 : Nat),
                                                    L := [(0 : Int)] })
                                                a)))
                                        (List.length
                                          (PX.q
                                            { a := { x := x, y := y, f := f }, f := f, i := (0 : Nat), L := [(0 : Int)] })))
                                      (DC.lst []))
                                    (List.length
                                        (PX.q
                                          { a := { x := x, y := y, f := f }, f := f, i := (0 : Nat), L := [(0 : Int)] }) +
                                      (0 : Nat)))
                                  (DC.lst []) }]
                    else none
                  else none
                else
                  bif
                      decide
                        ((0 : Nat) + List.length (paintL y (40 : Int) (92 : Int) (48 : Int)) ≤
                          DC.n (DBlk.c (lL (paintL y (40 : Int) (92 : Int) (48 : Int))))) then
                    bif
                        decide
                          (List.length
                                (PX.q { a := { x := x, y := y, f := f }, f := f, i := (0 : Nat), L := [(0 : Int)] }) +
                              (0 : Nat) ≤
                            DC.n
                              (appC
                                (DBlk.c
                                  (lL (PX.q { a := { x := x, y := y, f := f }, f := f, i := (0 : Nat), L := [(0 : Int)] })))
                                (List.length
                                  (PX.q { a := { x := x, y := y, f := f }, f := f, i := (0 : Nat), L := [(0 : Int)] }))
                                (DC.lst []))) then
                      bif
                          decide
                            ((List.length
                                      (PX.q { a := { x := x, y := y, f := f }, f := f, i := (0 : Nat), L := [(0 : Int)] }) +
                                    (0 : Nat) +
                                  List.length (paintL y (40 : Int) (92 : Int) (48 : Int))) *
                                (8 : Nat) ≤
                              (140737488355328 : Nat)) then
                        k
                          (DV.os (5 : Nat) (0 : Nat)
                            (List.length
                                  (PX.q { a := { x := x, y := y, f := f }, f := f, i := (0 : Nat), L := [(0 : Int)] }) +
                                (0 : Nat) +
                              List.length (paintL y (40 : Int) (92 : Int) (48 : Int))))
                          [some
                              { k := (3 : Nat),
                                c :=
                                  DC.lst
                                    [[DV.v (Value.int IntKind.i64 x), DV.v (Value.int IntKind.i64 y),
                                        DV.v (Value.int IntKind.i64 f)]] },
                            none, none, none,
                            some
                              { k := (1 : Nat),
                                c :=
                                  DC.tab (List.length (paintL y (40 : Int) (92 : Int) (48 : Int))) fun a a_1 =>
                                    DV.v (Value.int IntKind.i64 (lw (paintL y (40 : Int) (92 : Int) (48 : Int)) a)) },
                            some
                              { k := (1 : Nat),
                                c :=
                                  DC.app
                                    (DC.pre
                                      (DC.app
                                        (DC.pre
                                          (DC.tab
                                            (List.length
                                              (PX.q
                                                { a := { x := x, y := y, f := f }, f := f, i := (0 : Nat),
                                                  L := [(0 : Int)] }))
                                            fun a a_1 =>
                                            DV.v
                                              (Value.int IntKind.i64
                                                (lw
                                                  (PX.q
                                                    { a := { x := x, y := y, f := f }, f := f, i := (0 : Nat),
                                                      L := [(0 : Int)] })
                                                  a)))
                                          (List.length
                                            (PX.q
                                              { a := { x := x, y := y, f := f }, f := f, i := (0 : Nat),
                                                L := [(0 : Int)] })))
                                        (DC.lst []))
                                      (List.length
                                          (PX.q
                                            { a := { x := x, y := y, f := f }, f := f, i := (0 : Nat), L := [(0 : Int)] }) +
                                        (0 : Nat)))
                                    (DC.tab (List.length (paintL y (40 : Int) (92 : Int) (48 : Int))) fun j f =>
                                      DV.v
                                        (Value.int IntKind.i64
                                          (lw (paintL y (40 : Int) (92 : Int) (48 : Int)) ((0 : Nat) + j)))) }]
                      else none
                    else none
                  else none
              else none
            else none
          else none
        else
          bif
              decide
                ((0 : Nat) + List.length (paintL x (30 : Int) (82 : Int) (38 : Int)) ≤
                  DC.n (DBlk.c (lL (paintL x (30 : Int) (82 : Int) (38 : Int))))) then
            bif
                decide
                  (List.length (PX.q { a := { x := x, y := y, f := f }, f := f, i := (0 : Nat), L := [(0 : Int)] }) ≤
                    DC.n
                      (DBlk.c
                        (lL (PX.q { a := { x := x, y := y, f := f }, f := f, i := (0 : Nat), L := [(0 : Int)] })))) then
              bif
                  decide
                    ((List.length (PX.q { a := { x := x, y := y, f := f }, f := f, i := (0 : Nat), L := [(0 : Int)] }) +
                          List.length (paintL x (30 : Int) (82 : Int) (38 : Int))) *
                        (8 : Nat) ≤
                      (140737488355328 : Nat)) then
                bif
                    holds
                      (y ≤ (1000000 : Int) ∧
                        (0 : Int) ≤ (40 : Int) ∧
                          (40 : Int) ≤ (1000 : Int) ∧ (0 : Int) ≤ (92 : Int) ∧ (92 : Int) ≤ (1000 : Int)) then
                  bif decide (y < (0 : Int)) then
                    bif
                        decide
                          (List.length
                                (PX.q { a := { x := x, y := y, f := f }, f := f, i := (0 : Nat), L := [(0 : Int)] }) +
                              List.length (paintL x (30 : Int) (82 : Int) (38 : Int)) ≤
                            DC.n
                              (appC
                                (DBlk.c
                                  (lL (PX.q { a := { x := x, y := y, f := f }, f := f, i := (0 : Nat), L := [(0 : Int)] })))
                                (List.length
                                  (PX.q { a := { x := x, y := y, f := f }, f := f, i := (0 : Nat), L := [(0 : Int)] }))
                                (subC (DBlk.c (lL (paintL x (30 : Int) (82 : Int) (38 : Int)))) (0 : Nat)
                                  (List.length (paintL x (30 : Int) (82 : Int) (38 : Int)))))) then
                      bif
                          decide
                            ((List.length
                                      (PX.q { a := { x := x, y := y, f := f }, f := f, i := (0 : Nat), L := [(0 : Int)] }) +
                                    List.length (paintL x (30 : Int) (82 : Int) (38 : Int)) +
                                  (0 : Nat)) *
                                (8 : Nat) ≤
                              (140737488355328 : Nat)) then
                        k
                          (DV.os (5 : Nat) (0 : Nat)
                            (List.length
                                  (PX.q { a := { x := x, y := y, f := f }, f := f, i := (0 : Nat), L := [(0 : Int)] }) +
                                List.length (paintL x (30 : Int) (82 : Int) (38 : Int)) +
                              (0 : Nat)))
                          [some
                              { k := (3 : Nat),
                                c :=
                                  DC.lst
                                    [[DV.v (Value.int IntKind.i64 x), DV.v (Value.int IntKind.i64 y),
                                        DV.v (Value.int IntKind.i64 f)]] },
                            none, none,
                            some
                              { k := (1 : Nat),
                                c :=
                                  DC.tab (List.length (paintL x (30 : Int) (82 : Int) (38 : Int))) fun a a_1 =>
                                    DV.v (Value.int IntKind.i64 (lw (paintL x (30 : Int) (82 : Int) (38 : Int)) a)) },
                            none,
                            some
                              { k := (1 : Nat),
                                c :=
                                  DC.app
                                    (DC.pre
                                      (DC.app
                                        (DC.pre
                                          (DC.tab
                                            (List.length
                                              (PX.q
                                                { a := { x := x, y := y, f := f }, f := f, i := (0 : Nat),
                                                  L := [(0 : Int)] }))
                                            fun a a_1 =>
                                            DV.v
                                              (Value.int IntKind.i64
                                                (lw
                                                  (PX.q
                                                    { a := { x := x, y := y, f := f }, f := f, i := (0 : Nat),
                                                      L := [(0 : Int)] })
                                                  a)))
                                          (List.length
                                            (PX.q
                                              { a := { x := x, y := y, f := f }, f := f, i := (0 : Nat),
                                                L := [(0 : Int)] })))
                                        (DC.tab (List.length (paintL x (30 : Int) (82 : Int) (38 : Int))) fun j f =>
                                          DV.v
                                            (Value.int IntKind.i64
                                              (lw (paintL x (30 : Int) (82 : Int) (38 : Int)) ((0 : Nat) + j)))))
                                      (List.length
                                          (PX.q
                                            { a := { x := x, y := y, f := f }, f := f, i := (0 : Nat), L := [(0 : Int)] }) +
                                        List.length (paintL x (30 : Int) (82 : Int) (38 : Int))))
                                    (DC.lst []) }]
                      else none
                    else none
                  else
                    bif
                        decide
                          ((0 : Nat) + List.length (paintL y (40 : Int) (92 : Int) (48 : Int)) ≤
                            DC.n (DBlk.c (lL (paintL y (40 : Int) (92 : Int) (48 : Int))))) then
                      bif
                          decide
                            (List.length
                                  (PX.q { a := { x := x, y := y, f := f }, f := f, i := (0 : Nat), L := [(0 : Int)] }) +
                                List.length (paintL x (30 : Int) (82 : Int) (38 : Int)) ≤
                              DC.n
                                (appC
                                  (DBlk.c
                                    (lL
                                      (PX.q { a := { x := x, y := y, f := f }, f := f, i := (0 : Nat), L := [(0 : Int)] })))
                                  (List.length
                                    (PX.q { a := { x := x, y := y, f := f }, f := f, i := (0 : Nat), L := [(0 : Int)] }))
                                  (subC (DBlk.c (lL (paintL x (30 : Int) (82 : Int) (38 : Int)))) (0 : Nat)
                                    (List.length (paintL x (30 : Int) (82 : Int) (38 : Int)))))) then
                        bif
                            decide
                              ((List.length
                                        (PX.q
                                          { a := { x := x, y := y, f := f }, f := f, i := (0 : Nat), L := [(0 : Int)] }) +
                                      List.length (paintL x (30 : Int) (82 : Int) (38 : Int)) +
                                    List.length (paintL y (40 : Int) (92 : Int) (48 : Int))) *
                                  (8 : Nat) ≤
                                (140737488355328 : Nat)) then
                          k
                            (DV.os (6 : Nat) (0 : Nat)
                              (List.length
                                    (PX.q { a := { x := x, y := y, f := f }, f := f, i := (0 : Nat), L := [(0 : Int)] }) +
                                  List.length (paintL x (30 : Int) (82 : Int) (38 : Int)) +
                                List.length (paintL y (40 : Int) (92 : Int) (48 : Int))))
                            [some
                                { k := (3 : Nat),
                                  c :=
                                    DC.lst
                                      [[DV.v (Value.int IntKind.i64 x), DV.v (Value.int IntKind.i64 y),
                                          DV.v (Value.int IntKind.i64 f)]] },
                              none, none,
                              some
                                { k := (1 : Nat),
                                  c :=
                                    DC.tab (List.length (paintL x (30 : Int) (82 : Int) (38 : Int))) fun a a_1 =>
                                      DV.v (Value.int IntKind.i64 (lw (paintL x (30 : Int) (82 : Int) (38 : Int)) a)) },
                              none,
                              some
                                { k := (1 : Nat),
                                  c :=
                                    DC.tab (List.length (paintL y (40 : Int) (92 : Int) (48 : Int))) fun a a_1 =>
                                      DV.v (Value.int IntKind.i64 (lw (paintL y (40 : Int) (92 : Int) (48 : Int)) a)) },
                              some
                                { k := (1 : Nat),
                                  c :=
                                    DC.app
                                      (DC.pre
                                        (DC.app
                                          (DC.pre
                                            (DC.tab
                                              (List.length
                                                (PX.q
                                                  { a := { x := x, y := y, f := f }, f := f, i := (0 : Nat),
                                                    L := [(0 : Int)] }))
                                              fun a a_1 =>
                                              DV.v
                                                (Value.int IntKind.i64
                                                  (lw
                                                    (PX.q
                                                      { a := { x := x, y := y, f := f }, f := f, i := (0 : Nat),
                                                        L := [(0 : Int)] })
                                                    a)))
                                            (List.length
                                              (PX.q
                                                { a := { x := x, y := y, f := f }, f := f, i := (0 : Nat),
                                                  L := [(0 : Int)] })))
                                          (DC.tab (List.length (paintL x (30 : Int) (82 : Int) (38 : Int))) fun j f =>
                                            DV.v
                                              (Value.int IntKind.i64
                                                (lw (paintL x (30 : Int) (82 : Int) (38 : Int)) ((0 : Nat) + j)))))
                                        (List.length
                                            (PX.q
                                              { a := { x := x, y := y, f := f }, f := f, i := (0 : Nat),
                                                L := [(0 : Int)] }) +
                                          List.length (paintL x (30 : Int) (82 : Int) (38 : Int))))
                                      (DC.tab (List.length (paintL y (40 : Int) (92 : Int) (48 : Int))) fun j f =>
                                        DV.v
                                          (Value.int IntKind.i64
                                            (lw (paintL y (40 : Int) (92 : Int) (48 : Int)) ((0 : Nat) + j)))) }]
                        else none
                      else none
                    else none
                else none
              else none
            else none
          else none
      else none
    else none := by
  kernel_rfl

/-- SameInts -/
def eqN (z w : Nat → Int) : Nat → Nat → Bool × Unit
  | 0, _ => (true, ())
  | m + 1, i => bif z i == w i then eqN z w m (i + 1) else (false, ())
structure SX where
  z : Nat → Int
  w : Nat → Int
  t : Bool
  t' : Bool
  n : Nat
  i : Nat
def SX.r (x : SX) : Bool × Unit := eqN x.z x.w (x.n - x.i) x.i
def sameI : LInv SX where
  pre x := x.i ≤ x.n ∧ x.n ≤ 1000100
  m := 0
  n := 26
  ps := [0, 1, 5]
  sd x := [.sl x.t (ints x.z) 1 x.n, .sl x.t' (ints x.w) 1 x.n, iv x.i]
  sh _ := []
  meas x := x.n - x.i
  e x := bif x.r.1 then .exit 0 else .ret
  qs := [4]
  od x := bif x.r.1 then [.any] else [.v (.bool false)]
  oh _ := []
  guess ds _ := match ds with
    | [.sl t g 1 n, .sl t' g' 1 _, _] => some ⟨fun i => num (g i 0), fun i => num (g' i 0), t, t', n, 0⟩
    | _ => none
  cps x k := bif x.r.1 then k (.exit 0) [.any] [] else k .ret [.v (.bool false)] []
theorem same_tree (t t' : Bool) (z w : Nat → Int) (n i : Nat) (K : Ex → Nat → List DV → List DV → DHeap → Option Unit) : execD Tryd.prog (env [] noLp 0) (loopAt Tryd.f16 58) 500 (temps 26 [0, 1, 5] [.sl t (ints z) 1 n, .sl t' (ints w) 1 n, iv i]) [] (fun e τ σ => K e τ.length (pick [0, 1, 5] τ) (pick [4] τ) σ) =
    bif decide ((↑i : Int) < (↑n : Int)) then
      bif decide ((↑i : Int) < (↑n : Int)) then
        bif decide (Int.toNat (↑i : Int) + (0 : Nat) < n) then
          bif decide ((↑i : Int) < (↑n : Int)) then
            bif decide (Int.toNat (↑i : Int) + (0 : Nat) < n) then
              bif z (Int.toNat (↑i : Int) + (0 : Nat)) != w (Int.toNat (↑i : Int) + (0 : Nat)) then
                K Ex.ret (26 : Nat)
                  [DV.sl t (fun a a_1 => DV.v (Value.int IntKind.i64 (z a))) (1 : Nat) n,
                    DV.sl t' (fun a a_1 => DV.v (Value.int IntKind.i64 (w a))) (1 : Nat) n,
                    DV.v (Value.int IntKind.i64 (↑i : Int))]
                  [DV.v (Value.bool false)] []
              else
                K Ex.normal (26 : Nat)
                  [DV.sl t (fun a a_1 => DV.v (Value.int IntKind.i64 (z a))) (1 : Nat) n,
                    DV.sl t' (fun a a_1 => DV.v (Value.int IntKind.i64 (w a))) (1 : Nat) n,
                    DV.v (Value.int IntKind.i64 (IntKind.wrap IntKind.i64 ((↑i : Int) + (1 : Int))))]
                  [DV.any] []
            else none
          else none
        else none
      else none
    else
      K (Ex.exit (0 : Nat)) (26 : Nat)
        [DV.sl t (fun a a_1 => DV.v (Value.int IntKind.i64 (z a))) (1 : Nat) n,
          DV.sl t' (fun a a_1 => DV.v (Value.int IntKind.i64 (w a))) (1 : Nat) n, DV.v (Value.int IntKind.i64 (↑i : Int))]
        [DV.any] [] := by
  kernel_rfl
theorem same_fun (t t' : Bool) (z w : Nat → Int) (n n' : Nat) (k : DV → Option Unit) : bodyD Tryd.prog (env [] (lpOf [(58, sameI.g)]) 0) Tryd.f16 [.sl t (ints z) 1 n, .sl t' (ints w) 1 n'] [] (fun d _ => k d) =
    bif (↑n : Int) != (↑n' : Int) then k (DV.v (Value.bool false))
    else
      bif
          holds
            (LInv.pre sameI { z := z, w := w, t := t, t' := t', n := n, i := (0 : Nat) } ∧
              ∃ ids,
                WkP (0 : Nat) ids
                  [DV.sl t (fun a a_1 => DV.v (Value.int IntKind.i64 (z a))) (1 : Nat) n,
                    DV.sl t' (fun a a_1 => DV.v (Value.int IntKind.i64 (w a))) (1 : Nat) n',
                    DV.v (Value.int IntKind.i64 (0 : Int))]
                  []
                  [DV.sl t (fun a a_1 => DV.v (Value.int IntKind.i64 (z a))) (1 : Nat) n,
                    DV.sl t' (fun a a_1 => DV.v (Value.int IntKind.i64 (w a))) (1 : Nat) n,
                    DV.v (Value.int IntKind.i64 (0 : Int))]
                  (LInv.sh sameI { z := z, w := w, t := t, t' := t', n := n, i := (0 : Nat) })) then
        bif (SX.r { z := z, w := w, t := t, t' := t', n := n, i := (0 : Nat) }).1 then k (DV.v (Value.bool true))
        else k (DV.v (Value.bool false))
      else none := by
  kernel_rfl

theorem bitsP_len (f : Int) : ∀ (m i : Nat) (L : List Int), (bitsP f m i L).length ≤ L.length + m
  | 0, _, _ => Nat.le_refl _
  | m + 1, i, L => by
    have := bitsP_len f m (i + 1) (if bandF f (p2 i) = 0 then L else L ++ [codeN i])
    have h2 : (if bandF f (p2 i) = 0 then L else L ++ [codeN i]).length ≤ L.length + 1 := by split <;> simp
    show (bitsP f m (i + 1) _).length ≤ _
    omega
theorem bitsR_len : ∀ (m i : Nat) (f : Int) (L : List Int), (bitsR m i f L).length ≤ L.length + m
  | 0, _, _, _ => Nat.le_refl _
  | m + 1, i, f, L => by
    have := bitsR_len m (i + 1) (halfF f) (if Int.tmod f 2 = 1 then L ++ [codeZ i] else L)
    have h2 : (if Int.tmod f 2 = 1 then L ++ [codeZ i] else L).length ≤ L.length + 1 := by split <;> simp
    show (bitsR m (i + 1) _ _).length ≤ _
    omega
theorem chooseL_len (c b : Int) : (chooseL c b).length ≤ 3 := by unfold chooseL; (repeat' split) <;> simp
theorem paintL_len (c x y z : Int) : (paintL c x y z).length ≤ 3 := by unfold paintL; (repeat' split) <;> simp
def paramsF (a : At) : List Int := bitsP a.f 8 0 [0] ++ (if a.x < 0 then [] else chooseL a.x 30) ++ (if a.y < 0 then [] else chooseL a.y 40)
noncomputable def paramsC : ConF := fun args k => match args with
  | [.agg [.v (.int .i64 x), .v (.int .i64 y), .v (.int .i64 f)]] => bif holds (x ≤ 1000000 ∧ y ≤ 1000000) then k (fun s => (.os s 0 (paramsF ⟨x, y, f⟩).length, [some (lL (paramsF ⟨x, y, f⟩))])) else none
  | _ => none
theorem has_nil : Has (.lst []) [] := ⟨Nat.le_refl _, trivial, fun j hj => absurd hj (Nat.not_lt_zero _)⟩
theorem has_sub {L : List Int} : Has (.tab L.length fun j f => ints (lw L) (0 + j) f) L := ⟨Nat.le_refl _, trivial, fun j _ => by show iv (lw L (0 + j)) = _; rw [Nat.zero_add]⟩
theorem params_ok {st : AE.Stat} (hst : CodesIn st) : ConOk Tryd.prog st 17 paramsC := by
  refine con_of (mg := []) (l := [(30, chooseC)]) (lp := lpOf [(58, parI.g)]) (n := 0) (glOk hst) (fun x hx => ?_) Tryd.func17 (by kernel_rfl) (by kernel_rfl) (lp_one (by kernel_rfl) (par_ls hst)) fun args k hk => ?_
  · obtain rfl : x = (30, chooseC) := by simpa using hx
    exact choose_ok hst
  · unfold paramsC at hk
    split at hk <;> first | (cases hk; done) | skip
    rename_i x y f
    obtain ⟨hb, hk⟩ := bif_none hk
    obtain ⟨hx, hy⟩ : x ≤ 1000000 ∧ y ≤ 1000000 := holds_eq.1 hb
    refine ⟨[.agg [iv x, iv y, iv f]], _, .self .nil, hk, fun s => ⟨lowR_list, (par_fun x y f _).trans ?_⟩⟩
    have hL : PX.r ⟨⟨x, y, f⟩, 0, 0, [0]⟩ = bitsP f 8 0 [0] := rfl
    have hlen := bitsP_len f 8 0 [0]
    have h3 := chooseL_len x 30
    have h4 := chooseL_len y 40
    simp only [List.length_cons, List.length_nil] at hlen
    refine hT ⟨⟨Nat.zero_le _, Nat.le_refl _⟩, [1], .of (im := [some 0, some 1]) (.cons (.po rfl) (.cons (.os rfl) (.cons (.of_clo codesClo) (.cons (.v _) .nil)))) rfl ⟨⟨0, _, rfl, rfl, subA⟩, ⟨1, _, rfl, rfl, (Has.one rfl).sub⟩, trivial⟩ rfl (by decide)⟩ ?_
    simp only [hL]
    generalize hB : bitsP f 8 0 [0] = B at hlen
    have e : paramsF ⟨x, y, f⟩ = B ++ (if x < 0 then [] else chooseL x 30) ++ (if y < 0 then [] else chooseL y 40) := by rw [← hB]; rfl
    refine hT ⟨hx, by omega, by omega⟩ ?_
    refine dS (fun hx0 => ?_) fun hx0 => ?_
    · refine dT (Nat.le_refl _) (dT (by omega) (hT ⟨hy, by omega, by omega⟩ ?_))
      refine dS (fun hy0 => ?_) fun hy0 => ?_
      · refine dT (Nat.le_refl _) (dT (by omega) (fin_of ?_))
        rw [if_pos hx0, if_pos hy0] at e
        rw [e]
        exact finQ_has (by simp) rfl (.app (by simp) (.app rfl .tab has_nil) has_nil)
      · refine dT (Nat.le_of_eq (Nat.zero_add _)) (dT (Nat.le_refl _) (dT (by omega) (fin_of ?_)))
        rw [if_pos hx0, if_neg hy0] at e
        rw [e]
        exact finQ_has (by simp) rfl (.app (by simp) (.app rfl .tab has_nil) has_sub)
    · refine dT (Nat.le_of_eq (Nat.zero_add _)) (dT (Nat.le_refl _) (dT (by omega) (hT ⟨hy, by omega, by omega⟩ ?_)))
      refine dS (fun hy0 => ?_) fun hy0 => ?_
      · refine dT (Nat.le_refl _) (dT (by omega) (fin_of ?_))
        rw [if_neg hx0, if_pos hy0] at e
        rw [e]
        exact finQ_has (by simp) rfl (.app (by simp) (.app rfl .tab has_sub) has_nil)
      · refine dT (Nat.le_of_eq (Nat.zero_add _)) (dT (Nat.le_refl _) (dT (by omega) (fin_of ?_)))
        rw [if_neg hx0, if_neg hy0] at e
        rw [e]
        exact finQ_has (by simp [Nat.add_assoc]) rfl (.app (by simp) (.app rfl .tab has_sub) has_sub)

def rparamsF (a : At) : List Int := bitsR 8 0 a.f [0] ++ (if a.x < 0 then [] else paintL a.x 30 82 38) ++ (if a.y < 0 then [] else paintL a.y 40 92 48)
noncomputable def rparamsC : ConF := fun args k => match args with
  | [.agg [.v (.int .i64 x), .v (.int .i64 y), .v (.int .i64 f)]] => bif holds (x ≤ 1000000 ∧ y ≤ 1000000) then k (fun s => (.os s 0 (rparamsF ⟨x, y, f⟩).length, [some (lL (rparamsF ⟨x, y, f⟩))])) else none
  | _ => none
theorem rparams_ok {st : AE.Stat} (hst : CodesIn st) : ConOk Tryd.prog st 18 rparamsC := by
  refine con_of (mg := []) (l := [(32, paintC)]) (lp := lpOf [(122, rparI.g)]) (n := 0) (glOk hst) (fun x hx => ?_) Tryd.func18 (by kernel_rfl) (by kernel_rfl) (lp_one (by kernel_rfl) (rpar_ls hst)) fun args k hk => ?_
  · obtain rfl : x = (32, paintC) := by simpa using hx
    exact paint_ok hst
  · unfold rparamsC at hk
    split at hk <;> first | (cases hk; done) | skip
    rename_i x y f
    obtain ⟨hb, hk⟩ := bif_none hk
    obtain ⟨hx, hy⟩ : x ≤ 1000000 ∧ y ≤ 1000000 := holds_eq.1 hb
    refine ⟨[.agg [iv x, iv y, iv f]], _, .self .nil, hk, fun s => ⟨lowR_list, (rpar_fun x y f _).trans ?_⟩⟩
    have hL : PX.q ⟨⟨x, y, f⟩, f, 0, [0]⟩ = bitsR 8 0 f [0] := rfl
    have hlen := bitsR_len 8 0 f [0]
    have h3 := paintL_len x 30 82 38
    have h4 := paintL_len y 40 92 48
    simp only [List.length_cons, List.length_nil] at hlen
    refine hT ⟨⟨Nat.zero_le _, Nat.le_refl _⟩, [1], .of (im := [some 0, some 1]) (.cons (.po rfl) (.cons (.os rfl) (.cons (.v _) (.cons (.v _) .nil)))) rfl ⟨⟨0, _, rfl, rfl, subA⟩, ⟨1, _, rfl, rfl, (Has.one rfl).sub⟩, trivial⟩ rfl (by decide)⟩ ?_
    simp only [hL]
    generalize hB : bitsR 8 0 f [0] = B at hlen
    have e : rparamsF ⟨x, y, f⟩ = B ++ (if x < 0 then [] else paintL x 30 82 38) ++ (if y < 0 then [] else paintL y 40 92 48) := by rw [← hB]; rfl
    refine hT ⟨hx, by omega, by omega, by omega, by omega⟩ ?_
    refine dS (fun hx0 => ?_) fun hx0 => ?_
    · refine dT (Nat.le_refl _) (dT (by omega) (hT ⟨hy, by omega, by omega, by omega, by omega⟩ ?_))
      refine dS (fun hy0 => ?_) fun hy0 => ?_
      · refine dT (Nat.le_refl _) (dT (by omega) (fin_of ?_))
        rw [if_pos hx0, if_pos hy0] at e
        rw [e]
        exact finQ_has (by simp) rfl (.app (by simp) (.app rfl .tab has_nil) has_nil)
      · refine dT (Nat.le_of_eq (Nat.zero_add _)) (dT (Nat.le_refl _) (dT (by omega) (fin_of ?_)))
        rw [if_pos hx0, if_neg hy0] at e
        rw [e]
        exact finQ_has (by simp) rfl (.app (by simp) (.app rfl .tab has_nil) has_sub)
    · refine dT (Nat.le_of_eq (Nat.zero_add _)) (dT (Nat.le_refl _) (dT (by omega) (hT ⟨hy, by omega, by omega, by omega, by omega⟩ ?_)))
      refine dS (fun hy0 => ?_) fun hy0 => ?_
      · refine dT (Nat.le_refl _) (dT (by omega) (fin_of ?_))
        rw [if_neg hx0, if_pos hy0] at e
        rw [e]
        exact finQ_has (by simp) rfl (.app (by simp) (.app rfl .tab has_sub) has_nil)
      · refine dT (Nat.le_of_eq (Nat.zero_add _)) (dT (Nat.le_refl _) (dT (by omega) (fin_of ?_)))
        rw [if_neg hx0, if_neg hy0] at e
        rw [e]
        exact finQ_has (by simp [Nat.add_assoc]) rfl (.app (by simp) (.app rfl .tab has_sub) has_sub)

theorem same_ls {st : AE.Stat} (hst : CodesIn st) : LoopS Tryd.prog st gl0 (.loop (loopAt Tryd.f16 58)) sameI.g := by
  refine sameI.ok (E := env [] noLp 0) (p := 500) (tblD_env (l := []) (fun _ h => nomatch h)) (glOk hst).1 (fun _ _ _ h => nomatch h) (fun x k h => ?_) fun x hx => ?_
  · simp only [sameI] at h ⊢
    generalize x.r.1 = b at h ⊢
    cases b <;> exact h
  · obtain ⟨z, w, t, t', n, i⟩ := x
    obtain ⟨h1, h2⟩ : i ≤ n ∧ n ≤ 1000100 := hx
    refine (same_tree t t' z w n i _).trans ?_
    have hW : IntKind.i64.wrap ((i : Int) + 1) = ((i + 1 : Nat) : Int) := by rw [W_in (by omega) (by omega)]; omega
    simp only [hW, Int.toNat_natCast, Nat.add_zero]
    refine dS (fun h => ?_) fun h => ?_
    · have h : i < n := by omega
      obtain ⟨m, hm⟩ : ∃ m, n - i = m + 1 := ⟨n - i - 1, by omega⟩
      refine dT (by omega) (dT h (dT (by omega) (dT h ?_)))
      refine cS (fun hne => ?_) fun he => ?_
      · have hne : ¬ z i = w i := by simpa using hne
        have hr : SX.r ⟨z, w, t, t', n, i⟩ = (false, ()) := by
          have : (z i == w i) = false := by simpa using hne
          simp only [SX.r, hm, eqN, this, cond_false]
        refine LInv.ask_of ⟨rfl, ?_, [], ?_⟩
        · simp only [sameI, hr]; rfl
        · simp only [sameI, hr]
          exact .of (.cons (.v _) .nil) rfl trivial rfl .nil
      · have he : z i = w i := by simpa using he
        have hr : SX.r ⟨z, w, t, t', n, i + 1⟩ = SX.r ⟨z, w, t, t', n, i⟩ := by
          have : (z i == w i) = true := by simpa using he
          simp only [SX.r, hm, eqN, this, cond_true, show n - (i + 1) = m by omega]
        refine LInv.ask_of ⟨rfl, ⟨z, w, t, t', n, i + 1⟩, ⟨?_, ?_, rfl, h, h2⟩, ?_, [], .of (.cons (.sl _ _ _ _) (.cons (.sl _ _ _ _) (.cons (.v _) .nil))) rfl trivial rfl .nil⟩
        · simp only [sameI, hr]
        · simp only [sameI, hr]
        · simp only [sameI]; omega
    · obtain rfl : i = n := by omega
      have hr : SX.r ⟨z, w, t, t', i, i⟩ = (true, ()) := by
        simp only [SX.r, Nat.sub_self, eqN]
      refine LInv.ask_of ⟨rfl, ?_, [], ?_⟩
      · simp only [sameI, hr]; rfl
      · simp only [sameI, hr]
        exact .of (.cons (.any _) .nil) rfl trivial rfl .nil
def sameF (z : Nat → Int) (n : Nat) (w : Nat → Int) (n' : Nat) : Bool := bif decide (n = n') then (eqN z w n 0).1 else false
noncomputable def sameC : ConF := fun args k => match args with
  | [d, e] => intsK d fun z n => intsK e fun w n' => bif holds (n ≤ 1000100) then k (fun _ => (.v (.bool (sameF z n w n')), [])) else none
  | _ => none
theorem same_ok {st : AE.Stat} (hst : CodesIn st) : ConOk Tryd.prog st 16 sameC := by
  refine con_flat (mg := []) (l := []) (lp := lpOf [(58, sameI.g)]) (n := 0) (glOk hst) (fun _ h => nomatch h) Tryd.func16 (by kernel_rfl) (by kernel_rfl) (lp_one (by kernel_rfl) (same_ls hst)) fun args k hk => ?_
  unfold sameC at hk
  split at hk <;> first | (cases hk; done) | skip
  obtain ⟨t, z, n, hk, hc⟩ := intsK_some hk
  obtain ⟨t', w, n', hk, hc'⟩ := intsK_some hk
  obtain ⟨hn, hk⟩ := bif_none hk
  have hn : n ≤ 1000100 := holds_eq.1 hn
  refine ⟨[.sl t (ints z) 1 n, .sl t' (ints w) 1 n'], _, .cons hc (.cons hc' .nil), flR_clo rfl, hk, (same_fun t t' z w n n' _).trans ?_⟩
  refine cS (fun h => ?_) fun h => ?_
  · have h : ¬ n = n' := fun e => by subst e; simp at h
    refine isD_of ?_
    unfold sameF
    rw [decide_eq_false h]
    rfl
  · obtain rfl : n = n' := by
      have : (n : Int) = n' := by simpa using h
      omega
    have e : sameF z n w n = (eqN z w n 0).1 := by
      unfold sameF
      rw [decide_eq_true rfl]
      rfl
    rw [e]
    refine hT ⟨⟨Nat.zero_le _, hn⟩, [], .of (.cons (.sl _ _ _ _) (.cons (.sl _ _ _ _) (.cons (.v _) .nil))) rfl trivial rfl .nil⟩ ?_
    refine cS (fun h => isD_of ?_) fun h => isD_of ?_
    · have h : (eqN z w n 0).1 = true := h
      rw [h]
    · have h : (eqN z w n 0).1 = false := h
      rw [h]
end Go.Proofs.YtolmaphpfhplpaaDoor
