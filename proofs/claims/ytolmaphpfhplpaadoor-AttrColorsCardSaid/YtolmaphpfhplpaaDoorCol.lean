/-
  'AttrColors': the closure's contract, and what the law computes.
  Condition: none; a plain law, and the law's tree.
-/
import Derived.Test.YtolmaphpfhplpaaDoorOpen
namespace Go.Proofs.YtolmaphpfhplpaaDoor
open Go Go.AE Go.DE Go.RowKit

theorem pf_to {t : Bool} {g g' : Nat → Nat → DV} {k n : Nat} (h : ∀ i f, i < n → f < k → g i f = g' i f) (C : Cf) (μ : Mu) (v : Value) (hv : DR C μ (.pf t g k n 0 0) v) : DR C μ (.pf t g' k n 0 0) v := by
  obtain ⟨a, w, rfl, hk, hn, h1, h2⟩ := hv.pf_inv
  refine .pf t g' k n 0 0 a _ w hk hn rfl h1 fun i f hi hf => ?_
  rw [← h i f hi hf]
  exact h2 i f hi hf
/-- What 'get' answers. -/
def consZ (c : Int) (z : Nat → Int) : Nat → Int := fun j => if j < 1 then c else z (j - 1)
def getG (a : At) (c : Int) (b : Bool) (z : Nat → Int) (n : Nat) : Int :=
  if (applyF a (consZ c z) (1 + n)).f ≠ a.f then -9
  else if b = true then (if (applyF a (consZ c z) (1 + n)).x ≠ a.x then -9 else (applyF a (consZ c z) (1 + n)).y)
  else if (applyF a (consZ c z) (1 + n)).y ≠ a.y then -9 else (applyF a (consZ c z) (1 + n)).x
def atG (a : At) : Nat → Nat → DV := fun _ f => match f with | 0 => iv a.x | 1 => iv a.y | _ => iv a.f
noncomputable def getC : ConF := fun args k => match args with
  | [d, .pf _ ga 3 1 0 0, .pf _ gc 1 1 0 0, .pf _ gb 1 1 0 0] => match ga 0 0, ga 0 1, ga 0 2, gc 0 0, gb 0 0 with
    | .v (.int .i64 x), .v (.int .i64 y), .v (.int .i64 f), .v (.int .i64 c), .v (.bool b) => intsK d fun z n => bif holds (n ≤ 1000) then k (fun _ => (iv (getG ⟨x, y, f⟩ c b z n), [])) else none
    | _, _, _, _, _ => none
  | _ => none
theorem get_tree (a : At) (code : Int) (back t t1 t2 t3 : Bool) (z : Nat → Int) (n : Nat) (k : DV → Option Unit) : bodyD Tryd.prog (env lawT noLp 0) Tryd.f23 [.sl t (ints z) 1 n, .pf t1 (atG a) 3 1 0 0, .pf t2 (fun _ _ => iv code) 1 1 0 0, .pf t3 (fun _ _ => .v (.bool back)) 1 1 0 0] [] (fun d _ => k d) =
    bif decide (((1 : Nat) + n) * (8 : Nat) ≤ (140737488355328 : Nat)) then
      bif
          decide
            ((0 : Nat) + ((1 : Nat) + n) ≤
              DC.n
                (appC (DBlk.c (blockOf (1 : Nat) [DV.v (Value.int IntKind.i64 code)])) (1 : Nat) (DC.tab n (ints z)))) then
        bif
            holds
              (intsOk
                (fun j f =>
                  lend1
                    (DC.get
                      (appC (DBlk.c (blockOf (1 : Nat) [DV.v (Value.int IntKind.i64 code)])) (1 : Nat) (DC.tab n (ints z)))
                      ((0 : Nat) + j) f))
                ((1 : Nat) + n)) then
          bif holds ((1 : Nat) + n ≤ (1000000 : Nat)) then
            bif back then
              bif
                  At.f
                      (applyF a
                        (fun i =>
                          num
                            ((fun j f =>
                                lend1
                                  (DC.get
                                    (appC (DBlk.c (blockOf (1 : Nat) [DV.v (Value.int IntKind.i64 code)])) (1 : Nat)
                                      (DC.tab n (ints z)))
                                    ((0 : Nat) + j) f))
                              i (0 : Nat)))
                        ((1 : Nat) + n)) !=
                    At.f a then
                k (DV.v (Value.int IntKind.i64 (-9 : Int)))
              else
                bif back then
                  bif
                      At.x
                          (applyF a
                            (fun i =>
                              num
                                ((fun j f =>
                                    lend1
                                      (DC.get
                                        (appC (DBlk.c (blockOf (1 : Nat) [DV.v (Value.int IntKind.i64 code)])) (1 : Nat)
                                          (DC.tab n (ints z)))
                                        ((0 : Nat) + j) f))
                                  i (0 : Nat)))
                            ((1 : Nat) + n)) !=
                        At.x a then
                    k (DV.v (Value.int IntKind.i64 (-9 : Int)))
                  else
                    bif !back then
                      bif
                          At.x
                              (applyF a
                                (fun i =>
                                  num
                                    ((fun j f =>
                                        lend1
                                          (DC.get
                                            (appC (DBlk.c (blockOf (1 : Nat) [DV.v (Value.int IntKind.i64 code)])) (1 : Nat)
                                              (DC.tab n (ints z)))
                                            ((0 : Nat) + j) f))
                                      i (0 : Nat)))
                                ((1 : Nat) + n)) !=
                            At.y a then
                        k (DV.v (Value.int IntKind.i64 (-9 : Int)))
                      else
                        k
                          (DV.v
                            (Value.int IntKind.i64
                              (At.y
                                (applyF a
                                  (fun i =>
                                    num
                                      ((fun j f =>
                                          lend1
                                            (DC.get
                                              (appC (DBlk.c (blockOf (1 : Nat) [DV.v (Value.int IntKind.i64 code)]))
                                                (1 : Nat) (DC.tab n (ints z)))
                                              ((0 : Nat) + j) f))
                                        i (0 : Nat)))
                                  ((1 : Nat) + n)))))
                    else
                      k
                        (DV.v
                          (Value.int IntKind.i64
                            (At.y
                              (applyF a
                                (fun i =>
                                  num
                                    ((fun j f =>
                                        lend1
                                          (DC.get
                                            (appC (DBlk.c (blockOf (1 : Nat) [DV.v (Value.int IntKind.i64 code)])) (1 : Nat)
                                              (DC.tab n (ints z)))
                                            ((0 : Nat) + j) f))
                                      i (0 : Nat)))
                                ((1 : Nat) + n)))))
                else
                  bif !back then
                    bif
                        At.x
                            (applyF a
                              (fun i =>
                                num
                                  ((fun j f =>
                                      lend1
                                        (DC.get
                                          (appC (DBlk.c (blockOf (1 : Nat) [DV.v (Value.int IntKind.i64 code)])) (1 : Nat)
                                            (DC.tab n (ints z)))
                                          ((0 : Nat) + j) f))
                                    i (0 : Nat)))
                              ((1 : Nat) + n)) !=
                          At.y a then
                      k (DV.v (Value.int IntKind.i64 (-9 : Int)))
                    else
                      k
                        (DV.v
                          (Value.int IntKind.i64
                            (At.y
                              (applyF a
                                (fun i =>
                                  num
                                    ((fun j f =>
                                        lend1
                                          (DC.get
                                            (appC (DBlk.c (blockOf (1 : Nat) [DV.v (Value.int IntKind.i64 code)])) (1 : Nat)
                                              (DC.tab n (ints z)))
                                            ((0 : Nat) + j) f))
                                      i (0 : Nat)))
                                ((1 : Nat) + n)))))
                  else
                    k
                      (DV.v
                        (Value.int IntKind.i64
                          (At.y
                            (applyF a
                              (fun i =>
                                num
                                  ((fun j f =>
                                      lend1
                                        (DC.get
                                          (appC (DBlk.c (blockOf (1 : Nat) [DV.v (Value.int IntKind.i64 code)])) (1 : Nat)
                                            (DC.tab n (ints z)))
                                          ((0 : Nat) + j) f))
                                    i (0 : Nat)))
                              ((1 : Nat) + n)))))
            else
              bif
                  At.f
                      (applyF a
                        (fun i =>
                          num
                            ((fun j f =>
                                lend1
                                  (DC.get
                                    (appC (DBlk.c (blockOf (1 : Nat) [DV.v (Value.int IntKind.i64 code)])) (1 : Nat)
                                      (DC.tab n (ints z)))
                                    ((0 : Nat) + j) f))
                              i (0 : Nat)))
                        ((1 : Nat) + n)) !=
                    At.f a then
                k (DV.v (Value.int IntKind.i64 (-9 : Int)))
              else
                bif back then
                  bif
                      At.y
                          (applyF a
                            (fun i =>
                              num
                                ((fun j f =>
                                    lend1
                                      (DC.get
                                        (appC (DBlk.c (blockOf (1 : Nat) [DV.v (Value.int IntKind.i64 code)])) (1 : Nat)
                                          (DC.tab n (ints z)))
                                        ((0 : Nat) + j) f))
                                  i (0 : Nat)))
                            ((1 : Nat) + n)) !=
                        At.x a then
                    k (DV.v (Value.int IntKind.i64 (-9 : Int)))
                  else
                    bif !back then
                      bif
                          At.y
                              (applyF a
                                (fun i =>
                                  num
                                    ((fun j f =>
                                        lend1
                                          (DC.get
                                            (appC (DBlk.c (blockOf (1 : Nat) [DV.v (Value.int IntKind.i64 code)])) (1 : Nat)
                                              (DC.tab n (ints z)))
                                            ((0 : Nat) + j) f))
                                      i (0 : Nat)))
                                ((1 : Nat) + n)) !=
                            At.y a then
                        k (DV.v (Value.int IntKind.i64 (-9 : Int)))
                      else
                        k
                          (DV.v
                            (Value.int IntKind.i64
                              (At.x
                                (applyF a
                                  (fun i =>
                                    num
                                      ((fun j f =>
                                          lend1
                                            (DC.get
                                              (appC (DBlk.c (blockOf (1 : Nat) [DV.v (Value.int IntKind.i64 code)]))
                                                (1 : Nat) (DC.tab n (ints z)))
                                              ((0 : Nat) + j) f))
                                        i (0 : Nat)))
                                  ((1 : Nat) + n)))))
                    else
                      k
                        (DV.v
                          (Value.int IntKind.i64
                            (At.x
                              (applyF a
                                (fun i =>
                                  num
                                    ((fun j f =>
                                        lend1
                                          (DC.get
                                            (appC (DBlk.c (blockOf (1 : Nat) [DV.v (Value.int IntKind.i64 code)])) (1 : Nat)
                                              (DC.tab n (ints z)))
                                            ((0 : Nat) + j) f))
                                      i (0 : Nat)))
                                ((1 : Nat) + n)))))
                else
                  bif !back then
                    bif
                        At.y
                            (applyF a
                              (fun i =>
                                num
                                  ((fun j f =>
                                      lend1
                                        (DC.get
                                          (appC (DBlk.c (blockOf (1 : Nat) [DV.v (Value.int IntKind.i64 code)])) (1 : Nat)
                                            (DC.tab n (ints z)))
                                          ((0 : Nat) + j) f))
                                    i (0 : Nat)))
                              ((1 : Nat) + n)) !=
                          At.y a then
                      k (DV.v (Value.int IntKind.i64 (-9 : Int)))
                    else
                      k
                        (DV.v
                          (Value.int IntKind.i64
                            (At.x
                              (applyF a
                                (fun i =>
                                  num
                                    ((fun j f =>
                                        lend1
                                          (DC.get
                                            (appC (DBlk.c (blockOf (1 : Nat) [DV.v (Value.int IntKind.i64 code)])) (1 : Nat)
                                              (DC.tab n (ints z)))
                                            ((0 : Nat) + j) f))
                                      i (0 : Nat)))
                                ((1 : Nat) + n)))))
                  else
                    k
                      (DV.v
                        (Value.int IntKind.i64
                          (At.x
                            (applyF a
                              (fun i =>
                                num
                                  ((fun j f =>
                                      lend1
                                        (DC.get
                                          (appC (DBlk.c (blockOf (1 : Nat) [DV.v (Value.int IntKind.i64 code)])) (1 : Nat)
                                            (DC.tab n (ints z)))
                                          ((0 : Nat) + j) f))
                                    i (0 : Nat)))
                              ((1 : Nat) + n)))))
          else none
        else none
      else none
    else none := by
  kernel_rfl
abbrev hd0 (c : Int) : DC := (blockOf 1 [iv c]).c
abbrev hd1 (c : Int) (z : Nat → Int) (n : Nat) : DC := appC (hd0 c) 1 (.tab n (ints z))
theorem hd0_n (c : Int) : (hd0 c).n = 1 := by kernel_rfl
theorem hd0_get (c : Int) : (hd0 c).get 0 0 = iv c := by kernel_rfl
theorem hd1_n (c : Int) (z : Nat → Int) (n : Nat) : (hd1 c z n).n = 1 + n := appC_n (Nat.le_of_eq (hd0_n c).symm)
theorem hd1_get (c : Int) (z : Nat → Int) (n j : Nat) : (hd1 c z n).get j 0 = iv (consZ c z j) := by
  rw [appC_get (Nat.le_of_eq (hd0_n c).symm)]
  unfold consZ
  by_cases h : j < 1
  · rw [if_pos h, if_pos h]
    obtain rfl : j = 0 := by omega
    exact hd0_get c
  · rw [if_neg h, if_neg h]
    rfl
theorem hd1_num (c : Int) (z : Nat → Int) (n : Nat) : (fun i => num ((fun j f => lend1 ((hd1 c z n).get (0 + j) f)) i 0)) = consZ c z := by
  funext i
  show num (lend1 ((hd1 c z n).get (0 + i) 0)) = _
  rw [hd1_get, Nat.zero_add]
  rfl
theorem hd1_ok (c : Int) (z : Nat → Int) (n m : Nat) : intsOk (fun j f => lend1 ((hd1 c z n).get (0 + j) f)) m := fun i _ => by
  show lend1 ((hd1 c z n).get (0 + i) 0) = iv (num (lend1 ((hd1 c z n).get (0 + i) 0)))
  rw [hd1_get]
  rfl
theorem get_true (a : At) (c : Int) (b t t1 t2 t3 : Bool) (z : Nat → Int) (n : Nat) (hn : n ≤ 1000) :
    bodyD Tryd.prog (env lawT noLp 0) Tryd.f23 [.sl t (ints z) 1 n, .pf t1 (atG a) 3 1 0 0, .pf t2 (fun _ _ => iv c) 1 1 0 0, .pf t3 (fun _ _ => .v (.bool b)) 1 1 0 0] [] (fun d _ => isD (iv (getG a c b z n)) d) = some () := by
  refine (get_tree a c b t t1 t2 t3 z n _).trans ?_
  rw [hd1_num]
  refine dT (by omega) (dT ?_ (hT (hd1_ok c z n _) (hT (by omega) ?_)))
  · rw [Nat.zero_add]
    exact Nat.le_of_eq (hd1_n c z n).symm
  · unfold getG
    generalize applyF a (consZ c z) (1 + n) = r
    cases b
    · refine cF rfl (cS (fun h => isD_of ?_) fun h => cF rfl (cT rfl (cS (fun h' => isD_of ?_) fun h' => isD_of ?_)))
      · rw [if_pos (by simpa using h)]
      · rw [if_neg (by simpa using h), if_neg (by decide), if_pos (by simpa using h')]
      · rw [if_neg (by simpa using h), if_neg (by decide), if_neg (by simpa using h')]
    · refine cT rfl (cS (fun h => isD_of ?_) fun h => cT rfl (cS (fun h' => isD_of ?_) fun h' => cF rfl (isD_of ?_)))
      · rw [if_pos (by simpa using h)]
      · rw [if_neg (by simpa using h), if_pos rfl, if_pos (by simpa using h')]
      · rw [if_neg (by simpa using h), if_pos rfl, if_neg (by simpa using h')]
theorem get_ok {st : AE.Stat} (hst : CodesIn st) : ConOk Tryd.prog st 23 getC := by
  refine con_flat (mg := []) (l := lawT) (lp := noLp) (n := 0) (glOk hst) (lawT_ok hst) Tryd.func23 (by kernel_rfl) (by kernel_rfl) (fun _ _ _ h => nomatch h) fun args k hk => ?_
  unfold getC at hk
  split at hk <;> first | (cases hk; done) | skip
  rename_i d ta ga tc gc tb gb
  split at hk <;> first | (cases hk; done) | skip
  rename_i x y f c b ex ey ef ec eb
  obtain ⟨t, z, n, hk, hc⟩ := intsK_some hk
  obtain ⟨hn, hk⟩ := bif_none hk
  refine ⟨[.sl t (ints z) 1 n, .pf ta (atG ⟨x, y, f⟩) 3 1 0 0, .pf tc (fun _ _ => iv c) 1 1 0 0, .pf tb (fun _ _ => .v (.bool b)) 1 1 0 0], _, .cons hc (.cons (pf_to fun i j hi hj => ?_) (.cons (pf_to fun i j hi hj => ?_) (.cons (pf_to fun i j hi hj => ?_) .nil))), flR_clo rfl, hk, get_true ⟨x, y, f⟩ c b t ta tc tb z n (holds_eq.1 hn)⟩
  · obtain rfl : i = 0 := by omega
    have h3 : j = 0 ∨ j = 1 ∨ j = 2 := by omega
    rcases h3 with rfl | rfl | rfl
    · exact ex
    · exact ey
    · exact ef
  · obtain rfl : i = 0 := by omega
    obtain rfl : j = 0 := by omega
    exact ec
  · obtain rfl : i = 0 := by omega
    obtain rfl : j = 0 := by omega
    exact eb
abbrev bv (c : Int) : DV := kv .u8 c
noncomputable abbrev colT : List (FuncId × ConF) := (23, getC) :: lawT
theorem col_tree (x y f c0 c1 c2 c3 c4 c5 : Int) (b : Bool) (k : DV → Option Unit) : bodyD Tryd.prog (env colT noLp 0) Tryd.f9 [.agg [iv x, iv y, iv f], .agg [bv c0, bv c1, bv c2, bv c3, bv c4, bv c5], .v (.bool b)] [] (fun d _ => k d) =
    bif chkF { x := x, y := y, f := f } != (0 : Int) then k (DV.v (Value.bool true))
    else
      bif b then
        bif
            holds
              (intsOk
                (fun j f =>
                  lend1
                    (DC.get
                      (DBlk.c
                        (blockOf (1 : Nat)
                          [DV.v (Value.int IntKind.i64 (2 : Int)),
                            DV.v (Value.int IntKind.i64 (IntKind.wrap IntKind.i64 c0)),
                            DV.v (Value.int IntKind.i64 (IntKind.wrap IntKind.i64 c1)),
                            DV.v (Value.int IntKind.i64 (IntKind.wrap IntKind.i64 c2))]))
                      ((0 : Nat) + j) f))
                (4 : Nat)) then
          bif holds ((4 : Nat) ≤ (1000 : Nat)) then
            bif
                holds
                  (intsOk
                    (fun j f =>
                      lend1
                        (DC.get
                          (DBlk.c
                            (blockOf (1 : Nat)
                              [DV.v (Value.int IntKind.i64 (2 : Int)),
                                DV.v (Value.int IntKind.i64 (IntKind.wrap IntKind.i64 (if c3 > c0 then c3 else c0))),
                                DV.v (Value.int IntKind.i64 (IntKind.wrap IntKind.i64 (if c4 > c1 then c4 else c1))),
                                DV.v (Value.int IntKind.i64 (IntKind.wrap IntKind.i64 (if c5 > c2 then c5 else c2)))]))
                          ((0 : Nat) + j) f))
                    (4 : Nat)) then
              bif holds ((4 : Nat) ≤ (1000 : Nat)) then
                bif
                    decide
                      (getG { x := x, y := y, f := f } (48 : Int) b
                          (fun i =>
                            num
                              ((fun j f =>
                                  lend1
                                    (DC.get
                                      (DBlk.c
                                        (blockOf (1 : Nat)
                                          [DV.v (Value.int IntKind.i64 (2 : Int)),
                                            DV.v (Value.int IntKind.i64 (IntKind.wrap IntKind.i64 c0)),
                                            DV.v (Value.int IntKind.i64 (IntKind.wrap IntKind.i64 c1)),
                                            DV.v (Value.int IntKind.i64 (IntKind.wrap IntKind.i64 c2))]))
                                      ((0 : Nat) + j) f))
                                i (0 : Nat)))
                          (4 : Nat) ≥
                        (16 : Int)) then
                  bif
                      decide
                        (getG { x := x, y := y, f := f } (48 : Int) b
                            (fun i =>
                              num
                                ((fun j f =>
                                    lend1
                                      (DC.get
                                        (DBlk.c
                                          (blockOf (1 : Nat)
                                            [DV.v (Value.int IntKind.i64 (2 : Int)),
                                              DV.v (Value.int IntKind.i64 (IntKind.wrap IntKind.i64 c0)),
                                              DV.v (Value.int IntKind.i64 (IntKind.wrap IntKind.i64 c1)),
                                              DV.v (Value.int IntKind.i64 (IntKind.wrap IntKind.i64 c2))]))
                                        ((0 : Nat) + j) f))
                                  i (0 : Nat)))
                            (4 : Nat) ≤
                          getG { x := x, y := y, f := f } (48 : Int) b
                            (fun i =>
                              num
                                ((fun j f =>
                                    lend1
                                      (DC.get
                                        (DBlk.c
                                          (blockOf (1 : Nat)
                                            [DV.v (Value.int IntKind.i64 (2 : Int)),
                                              DV.v
                                                (Value.int IntKind.i64
                                                  (IntKind.wrap IntKind.i64 (if c3 > c0 then c3 else c0))),
                                              DV.v
                                                (Value.int IntKind.i64
                                                  (IntKind.wrap IntKind.i64 (if c4 > c1 then c4 else c1))),
                                              DV.v
                                                (Value.int IntKind.i64
                                                  (IntKind.wrap IntKind.i64 (if c5 > c2 then c5 else c2)))]))
                                        ((0 : Nat) + j) f))
                                  i (0 : Nat)))
                            (4 : Nat)) then
                    bif
                        decide
                          (getG { x := x, y := y, f := f } (48 : Int) b
                              (fun i =>
                                num
                                  ((fun j f =>
                                      lend1
                                        (DC.get
                                          (DBlk.c
                                            (blockOf (1 : Nat)
                                              [DV.v (Value.int IntKind.i64 (2 : Int)),
                                                DV.v
                                                  (Value.int IntKind.i64
                                                    (IntKind.wrap IntKind.i64 (if c3 > c0 then c3 else c0))),
                                                DV.v
                                                  (Value.int IntKind.i64
                                                    (IntKind.wrap IntKind.i64 (if c4 > c1 then c4 else c1))),
                                                DV.v
                                                  (Value.int IntKind.i64
                                                    (IntKind.wrap IntKind.i64 (if c5 > c2 then c5 else c2)))]))
                                          ((0 : Nat) + j) f))
                                    i (0 : Nat)))
                              (4 : Nat) ≤
                            (231 : Int)) then
                      bif
                          holds
                            (intsOk
                              (fun j f =>
                                lend1
                                  (DC.get
                                    (DBlk.c
                                      (blockOf (1 : Nat)
                                        [DV.v (Value.int IntKind.i64 (2 : Int)), DV.v (Value.int IntKind.i64 (0 : Int)),
                                          DV.v (Value.int IntKind.i64 (0 : Int)), DV.v (Value.int IntKind.i64 (0 : Int))]))
                                    ((0 : Nat) + j) f))
                              (4 : Nat)) then
                        bif holds ((4 : Nat) ≤ (1000 : Nat)) then
                          bif
                              getG { x := x, y := y, f := f } (48 : Int) b
                                  (fun i =>
                                    num
                                      ((fun j f =>
                                          lend1
                                            (DC.get
                                              (DBlk.c
                                                (blockOf (1 : Nat)
                                                  [DV.v (Value.int IntKind.i64 (2 : Int)),
                                                    DV.v (Value.int IntKind.i64 (0 : Int)),
                                                    DV.v (Value.int IntKind.i64 (0 : Int)),
                                                    DV.v (Value.int IntKind.i64 (0 : Int))]))
                                              ((0 : Nat) + j) f))
                                        i (0 : Nat)))
                                  (4 : Nat) ==
                                (16 : Int) then
                            bif
                                holds
                                  (intsOk
                                    (fun j f =>
                                      lend1
                                        (DC.get
                                          (DBlk.c
                                            (blockOf (1 : Nat)
                                              [DV.v (Value.int IntKind.i64 (2 : Int)),
                                                DV.v (Value.int IntKind.i64 (255 : Int)),
                                                DV.v (Value.int IntKind.i64 (255 : Int)),
                                                DV.v (Value.int IntKind.i64 (255 : Int))]))
                                          ((0 : Nat) + j) f))
                                    (4 : Nat)) then
                              bif holds ((4 : Nat) ≤ (1000 : Nat)) then
                                bif
                                    getG { x := x, y := y, f := f } (48 : Int) b
                                        (fun i =>
                                          num
                                            ((fun j f =>
                                                lend1
                                                  (DC.get
                                                    (DBlk.c
                                                      (blockOf (1 : Nat)
                                                        [DV.v (Value.int IntKind.i64 (2 : Int)),
                                                          DV.v (Value.int IntKind.i64 (255 : Int)),
                                                          DV.v (Value.int IntKind.i64 (255 : Int)),
                                                          DV.v (Value.int IntKind.i64 (255 : Int))]))
                                                    ((0 : Nat) + j) f))
                                              i (0 : Nat)))
                                        (4 : Nat) ==
                                      (231 : Int) then
                                  bif
                                      holds
                                        (intsOk
                                          (fun j f =>
                                            lend1
                                              (DC.get
                                                (DBlk.c
                                                  (blockOf (1 : Nat)
                                                    [DV.v (Value.int IntKind.i64 (5 : Int)),
                                                      DV.v (Value.int IntKind.i64 (IntKind.wrap IntKind.i64 c0))]))
                                                ((0 : Nat) + j) f))
                                          (2 : Nat)) then
                                    bif holds ((2 : Nat) ≤ (1000 : Nat)) then
                                      bif
                                          getG { x := x, y := y, f := f } (48 : Int) b
                                              (fun i =>
                                                num
                                                  ((fun j f =>
                                                      lend1
                                                        (DC.get
                                                          (DBlk.c
                                                            (blockOf (1 : Nat)
                                                              [DV.v (Value.int IntKind.i64 (5 : Int)),
                                                                DV.v
                                                                  (Value.int IntKind.i64 (IntKind.wrap IntKind.i64 c0))]))
                                                          ((0 : Nat) + j) f))
                                                    i (0 : Nat)))
                                              (2 : Nat) ==
                                            IntKind.wrap IntKind.i64 c0 then
                                        k (DV.v (Value.bool true))
                                      else k (DV.v (Value.bool false))
                                    else none
                                  else none
                                else k (DV.v (Value.bool false))
                              else none
                            else none
                          else k (DV.v (Value.bool false))
                        else none
                      else none
                    else k (DV.v (Value.bool false))
                  else k (DV.v (Value.bool false))
                else k (DV.v (Value.bool false))
              else none
            else none
          else none
        else none
      else
        bif
            holds
              (intsOk
                (fun j f =>
                  lend1
                    (DC.get
                      (DBlk.c
                        (blockOf (1 : Nat)
                          [DV.v (Value.int IntKind.i64 (2 : Int)),
                            DV.v (Value.int IntKind.i64 (IntKind.wrap IntKind.i64 c0)),
                            DV.v (Value.int IntKind.i64 (IntKind.wrap IntKind.i64 c1)),
                            DV.v (Value.int IntKind.i64 (IntKind.wrap IntKind.i64 c2))]))
                      ((0 : Nat) + j) f))
                (4 : Nat)) then
          bif holds ((4 : Nat) ≤ (1000 : Nat)) then
            bif
                holds
                  (intsOk
                    (fun j f =>
                      lend1
                        (DC.get
                          (DBlk.c
                            (blockOf (1 : Nat)
                              [DV.v (Value.int IntKind.i64 (2 : Int)),
                                DV.v (Value.int IntKind.i64 (IntKind.wrap IntKind.i64 (if c3 > c0 then c3 else c0))),
                                DV.v (Value.int IntKind.i64 (IntKind.wrap IntKind.i64 (if c4 > c1 then c4 else c1))),
                                DV.v (Value.int IntKind.i64 (IntKind.wrap IntKind.i64 (if c5 > c2 then c5 else c2)))]))
                          ((0 : Nat) + j) f))
                    (4 : Nat)) then
              bif holds ((4 : Nat) ≤ (1000 : Nat)) then
                bif
                    decide
                      (getG { x := x, y := y, f := f } (38 : Int) b
                          (fun i =>
                            num
                              ((fun j f =>
                                  lend1
                                    (DC.get
                                      (DBlk.c
                                        (blockOf (1 : Nat)
                                          [DV.v (Value.int IntKind.i64 (2 : Int)),
                                            DV.v (Value.int IntKind.i64 (IntKind.wrap IntKind.i64 c0)),
                                            DV.v (Value.int IntKind.i64 (IntKind.wrap IntKind.i64 c1)),
                                            DV.v (Value.int IntKind.i64 (IntKind.wrap IntKind.i64 c2))]))
                                      ((0 : Nat) + j) f))
                                i (0 : Nat)))
                          (4 : Nat) ≥
                        (16 : Int)) then
                  bif
                      decide
                        (getG { x := x, y := y, f := f } (38 : Int) b
                            (fun i =>
                              num
                                ((fun j f =>
                                    lend1
                                      (DC.get
                                        (DBlk.c
                                          (blockOf (1 : Nat)
                                            [DV.v (Value.int IntKind.i64 (2 : Int)),
                                              DV.v (Value.int IntKind.i64 (IntKind.wrap IntKind.i64 c0)),
                                              DV.v (Value.int IntKind.i64 (IntKind.wrap IntKind.i64 c1)),
                                              DV.v (Value.int IntKind.i64 (IntKind.wrap IntKind.i64 c2))]))
                                        ((0 : Nat) + j) f))
                                  i (0 : Nat)))
                            (4 : Nat) ≤
                          getG { x := x, y := y, f := f } (38 : Int) b
                            (fun i =>
                              num
                                ((fun j f =>
                                    lend1
                                      (DC.get
                                        (DBlk.c
                                          (blockOf (1 : Nat)
                                            [DV.v (Value.int IntKind.i64 (2 : Int)),
                                              DV.v
                                                (Value.int IntKind.i64
                                                  (IntKind.wrap IntKind.i64 (if c3 > c0 then c3 else c0))),
                                              DV.v
                                                (Value.int IntKind.i64
                                                  (IntKind.wrap IntKind.i64 (if c4 > c1 then c4 else c1))),
                                              DV.v
                                                (Value.int IntKind.i64
                                                  (IntKind.wrap IntKind.i64 (if c5 > c2 then c5 else c2)))]))
                                        ((0 : Nat) + j) f))
                                  i (0 : Nat)))
                            (4 : Nat)) then
                    bif
                        decide
                          (getG { x := x, y := y, f := f } (38 : Int) b
                              (fun i =>
                                num
                                  ((fun j f =>
                                      lend1
                                        (DC.get
                                          (DBlk.c
                                            (blockOf (1 : Nat)
                                              [DV.v (Value.int IntKind.i64 (2 : Int)),
                                                DV.v
                                                  (Value.int IntKind.i64
                                                    (IntKind.wrap IntKind.i64 (if c3 > c0 then c3 else c0))),
                                                DV.v
                                                  (Value.int IntKind.i64
                                                    (IntKind.wrap IntKind.i64 (if c4 > c1 then c4 else c1))),
                                                DV.v
                                                  (Value.int IntKind.i64
                                                    (IntKind.wrap IntKind.i64 (if c5 > c2 then c5 else c2)))]))
                                          ((0 : Nat) + j) f))
                                    i (0 : Nat)))
                              (4 : Nat) ≤
                            (231 : Int)) then
                      bif
                          holds
                            (intsOk
                              (fun j f =>
                                lend1
                                  (DC.get
                                    (DBlk.c
                                      (blockOf (1 : Nat)
                                        [DV.v (Value.int IntKind.i64 (2 : Int)), DV.v (Value.int IntKind.i64 (0 : Int)),
                                          DV.v (Value.int IntKind.i64 (0 : Int)), DV.v (Value.int IntKind.i64 (0 : Int))]))
                                    ((0 : Nat) + j) f))
                              (4 : Nat)) then
                        bif holds ((4 : Nat) ≤ (1000 : Nat)) then
                          bif
                              getG { x := x, y := y, f := f } (38 : Int) b
                                  (fun i =>
                                    num
                                      ((fun j f =>
                                          lend1
                                            (DC.get
                                              (DBlk.c
                                                (blockOf (1 : Nat)
                                                  [DV.v (Value.int IntKind.i64 (2 : Int)),
                                                    DV.v (Value.int IntKind.i64 (0 : Int)),
                                                    DV.v (Value.int IntKind.i64 (0 : Int)),
                                                    DV.v (Value.int IntKind.i64 (0 : Int))]))
                                              ((0 : Nat) + j) f))
                                        i (0 : Nat)))
                                  (4 : Nat) ==
                                (16 : Int) then
                            bif
                                holds
                                  (intsOk
                                    (fun j f =>
                                      lend1
                                        (DC.get
                                          (DBlk.c
                                            (blockOf (1 : Nat)
                                              [DV.v (Value.int IntKind.i64 (2 : Int)),
                                                DV.v (Value.int IntKind.i64 (255 : Int)),
                                                DV.v (Value.int IntKind.i64 (255 : Int)),
                                                DV.v (Value.int IntKind.i64 (255 : Int))]))
                                          ((0 : Nat) + j) f))
                                    (4 : Nat)) then
                              bif holds ((4 : Nat) ≤ (1000 : Nat)) then
                                bif
                                    getG { x := x, y := y, f := f } (38 : Int) b
                                        (fun i =>
                                          num
                                            ((fun j f =>
                                                lend1
                                                  (DC.get
                                                    (DBlk.c
                                                      (blockOf (1 : Nat)
                                                        [DV.v (Value.int IntKind.i64 (2 : Int)),
                                                          DV.v (Value.int IntKind.i64 (255 : Int)),
                                                          DV.v (Value.int IntKind.i64 (255 : Int)),
                                                          DV.v (Value.int IntKind.i64 (255 : Int))]))
                                                    ((0 : Nat) + j) f))
                                              i (0 : Nat)))
                                        (4 : Nat) ==
                                      (231 : Int) then
                                  bif
                                      holds
                                        (intsOk
                                          (fun j f =>
                                            lend1
                                              (DC.get
                                                (DBlk.c
                                                  (blockOf (1 : Nat)
                                                    [DV.v (Value.int IntKind.i64 (5 : Int)),
                                                      DV.v (Value.int IntKind.i64 (IntKind.wrap IntKind.i64 c0))]))
                                                ((0 : Nat) + j) f))
                                          (2 : Nat)) then
                                    bif holds ((2 : Nat) ≤ (1000 : Nat)) then
                                      bif
                                          getG { x := x, y := y, f := f } (38 : Int) b
                                              (fun i =>
                                                num
                                                  ((fun j f =>
                                                      lend1
                                                        (DC.get
                                                          (DBlk.c
                                                            (blockOf (1 : Nat)
                                                              [DV.v (Value.int IntKind.i64 (5 : Int)),
                                                                DV.v
                                                                  (Value.int IntKind.i64 (IntKind.wrap IntKind.i64 c0))]))
                                                          ((0 : Nat) + j) f))
                                                    i (0 : Nat)))
                                              (2 : Nat) ==
                                            IntKind.wrap IntKind.i64 c0 then
                                        k (DV.v (Value.bool true))
                                      else k (DV.v (Value.bool false))
                                    else none
                                  else none
                                else k (DV.v (Value.bool false))
                              else none
                            else none
                          else k (DV.v (Value.bool false))
                        else none
                      else none
                    else k (DV.v (Value.bool false))
                  else k (DV.v (Value.bool false))
                else k (DV.v (Value.bool false))
              else none
            else none
          else none
        else none := by
  kernel_rfl
theorem nums_cons {c : Int} {z : Nat → Int} {L : List Int} (hc : 0 ≤ c) (hL : ∀ v ∈ L, 0 ≤ v) (hz : ∀ j, j < L.length → z j = lw L j) : nums (consZ c z) (1 + L.length) = c :: L := by
  unfold nums
  rw [if_neg (by omega)]
  refine List.ext_getElem (by simp; omega) fun i h1 h2 => ?_
  simp only [List.getElem_map, List.getElem_range, mx]
  cases i with
  | zero =>
    show (if 0 > c then 0 else c) = c
    rw [if_neg (by omega)]
  | succ i =>
    have hi : i < L.length := by simpa using h2
    have hp := hL L[i] (List.getElem_mem hi)
    have e : consZ c z (i + 1) = L[i] := by
      unfold consZ
      rw [if_neg (by omega), show i + 1 - 1 = i by omega, hz i hi]
      simp only [lw, List.getD_eq_getElem?_getD, List.getElem?_eq_getElem hi, Option.getD_some]
    rw [e, if_neg (by omega), List.getElem_cons_succ]
def In8 (v : Int) : Prop := 0 ≤ v ∧ v ≤ 255
theorem run_rgb {v r g l : Int} (a : At) (hv : v = 38 ∨ v = 48) (hr : In8 r) (hg : In8 g) (hl : In8 l) : run (v :: [2, r, g, l]) a = (false, if v = 38 then { a with x := mix r g l } else { a with y := mix r g l }) := by
  have hc : colF (lw [2, r, g, l]) [2, r, g, l].length = (mix r g l, 4) := by
    unfold colF
    refine (if_neg fun h => ?_).trans ((if_pos ⟨Nat.le_refl 4, rfl, hr.2, hg.2, hl.2⟩).trans rfl)
    have h5 : (2 : Int) = 5 := h.2.1
    omega
  rw [run_col _ _ hv, hc, if_neg (show ¬ (4 : Int) = 0 by decide), colN, putC, hc]
  rfl
theorem run_idx {v r : Int} (a : At) (hv : v = 38 ∨ v = 48) (hr : In8 r) : run (v :: [5, r]) a = (false, if v = 38 then { a with x := r } else { a with y := r }) := by
  have hc : colF (lw [5, r]) [5, r].length = (r, 2) := by
    unfold colF
    exact (if_pos ⟨Nat.le_refl 2, rfl, hr.2⟩).trans rfl
  rw [run_col _ _ hv, hc, if_neg (show ¬ (2 : Int) = 0 by decide), colN, putC, hc]
  rfl
abbrev codeB (b : Bool) : Int := bif b then 48 else 38
theorem get_of {a : At} {b : Bool} {z : Nat → Int} {L : List Int} {q : Int} (hL : ∀ v ∈ L, 0 ≤ v) (hz : ∀ j, j < L.length → z j = lw L j)
    (hr : run (codeB b :: L) a = (false, if codeB b = 38 then { a with x := q } else { a with y := q })) : getG a (codeB b) b z L.length = q := by
  unfold getG
  rw [apply_run, nums_cons (by cases b <;> decide) hL hz, hr]
  cases b
  · show (if a.f ≠ a.f then (-9 : Int) else if false = true then _ else if a.y ≠ a.y then -9 else q) = q
    rw [if_neg (by simp), if_neg (by decide), if_neg (by simp)]
  · show (if a.f ≠ a.f then (-9 : Int) else if true = true then (if a.x ≠ a.x then -9 else q) else _) = q
    rw [if_neg (by simp), if_pos rfl, if_neg (by simp)]
theorem get_rgb {a : At} {b : Bool} {z : Nat → Int} {r g l : Int} (hr : In8 r) (hg : In8 g) (hl : In8 l) (hz : ∀ j, j < 4 → z j = lw [2, r, g, l] j) : getG a (codeB b) b z 4 = mix r g l :=
  get_of (L := [2, r, g, l]) (fun v hv => by
    have h1 := hr.1
    have h2 := hg.1
    have h3 := hl.1
    simp only [List.mem_cons, List.not_mem_nil, or_false] at hv
    omega) hz (run_rgb a (by cases b <;> decide) hr hg hl)
theorem get_idx {a : At} {b : Bool} {z : Nat → Int} {r : Int} (hr : In8 r) (hz : ∀ j, j < 2 → z j = lw [5, r] j) : getG a (codeB b) b z 2 = r :=
  get_of (L := [5, r]) (fun v hv => by
    have h1 := hr.1
    simp only [List.mem_cons, List.not_mem_nil, or_false] at hv
    omega) hz (run_idx a (by cases b <;> decide) hr)
theorem d5_div : ∀ a, a < 256 → d5 (a : Nat) = ((a * 5 / 255 : Nat) : Int) := by decide +kernel
theorem d5_mono {a b : Int} (ha : In8 a) (hb : In8 b) (h : a ≤ b) : d5 a ≤ d5 b := by
  obtain ⟨m, rfl⟩ : ∃ m : Nat, a = m := ⟨a.toNat, by have := ha.1; omega⟩
  obtain ⟨n, rfl⟩ : ∃ n : Nat, b = n := ⟨b.toNat, by have := hb.1; omega⟩
  have h1 := ha.2
  have h2 := hb.2
  rw [d5_div m (by omega), d5_div n (by omega)]
  exact Int.ofNat_le.2 (Nat.div_le_div_right (Nat.mul_le_mul_right 5 (by omega)))
theorem mix_mono {a b c a' b' c' : Int} (ha : In8 a) (hb : In8 b) (hc : In8 c) (ha' : In8 a') (hb' : In8 b') (hc' : In8 c') (h1 : a ≤ a') (h2 : b ≤ b') (h3 : c ≤ c') : mix a b c ≤ mix a' b' c' := by
  rw [mix_eq ha hb hc, mix_eq ha' hb' hc']
  have := d5_mono ha ha' h1
  have := d5_mono hb hb' h2
  have := d5_mono hc hc' h3
  omega
theorem mix_rng {a b c : Int} (ha : In8 a) (hb : In8 b) (hc : In8 c) : 16 ≤ mix a b c ∧ mix a b c ≤ 231 := by
  rw [mix_eq ha hb hc]
  have := d5_in ha
  have := d5_in hb
  have := d5_in hc
  omega
/-- The rows that the law hands to 'get'. -/
abbrev row (l : List DV) : Nat → Nat → DV := fun j f => lend1 ((blockOf 1 l).c.get (0 + j) f)
theorem row4_ok (a b c d : Int) : intsOk (row [iv a, iv b, iv c, iv d]) 4 := fun i hi => by
  have h : i = 0 ∨ i = 1 ∨ i = 2 ∨ i = 3 := by omega
  rcases h with rfl | rfl | rfl | rfl <;> (show _ = _; kernel_rfl)
theorem row2_ok (a b : Int) : intsOk (row [iv a, iv b]) 2 := fun i hi => by
  have h : i = 0 ∨ i = 1 := by omega
  rcases h with rfl | rfl <;> (show _ = _; kernel_rfl)
theorem row4_num (a b c d : Int) : ∀ j, j < 4 → num (row [iv a, iv b, iv c, iv d] j 0) = lw [a, b, c, d] j := fun j hj => by
  have h : j = 0 ∨ j = 1 ∨ j = 2 ∨ j = 3 := by omega
  rcases h with rfl | rfl | rfl | rfl <;> (show _ = _; kernel_rfl)
theorem row2_num (a b : Int) : ∀ j, j < 2 → num (row [iv a, iv b] j 0) = lw [a, b] j := fun j hj => by
  have h : j = 0 ∨ j = 1 := by omega
  rcases h with rfl | rfl <;> (show _ = _; kernel_rfl)
theorem W8 {v : Int} (h : In8 v) : IntKind.i64.wrap v = v := W_in (by have := h.1; omega) (by have := h.2; omega)
theorem max8 {a b : Int} (ha : In8 a) (hb : In8 b) : In8 (if b > a then b else a) := by
  split <;> assumption
theorem max_le {a b : Int} : a ≤ if b > a then b else a := by
  split <;> omega
theorem col_true (x y f c0 c1 c2 c3 c4 c5 : Int) (b : Bool) (h0 : In8 c0) (h1 : In8 c1) (h2 : In8 c2) (h3 : In8 c3) (h4 : In8 c4) (h5 : In8 c5) :
    bodyD Tryd.prog (env colT noLp 0) Tryd.f9 [.agg [iv x, iv y, iv f], .agg [bv c0, bv c1, bv c2, bv c3, bv c4, bv c5], .v (.bool b)] [] (fun d _ => isD (.v (.bool true)) d) = some () := by
  refine (col_tree x y f c0 c1 c2 c3 c4 c5 b _).trans ?_
  by_cases hok : At.Ok ⟨x, y, f⟩
  · refine cF (chk_eq hok) ?_
    have m0 := max8 h0 h3
    have m1 := max8 h1 h4
    have m2 := max8 h2 h5
    have r1 := mix_rng h0 h1 h2
    have r2 := mix_rng m0 m1 m2
    have r3 := mix_mono h0 h1 h2 m0 m1 m2 max_le max_le max_le
    have z8 : In8 0 := ⟨by decide, by decide⟩
    have t8 : In8 255 := ⟨by decide, by decide⟩
    have k0 : mix 0 0 0 = 16 := by decide +kernel
    have k1 : mix 255 255 255 = 231 := by decide +kernel
    rw [W8 h0, W8 h1, W8 h2, W8 m0, W8 m1, W8 m2]
    have e1 := get_rgb (a := ⟨x, y, f⟩) (b := b) h0 h1 h2 (row4_num 2 c0 c1 c2)
    have e2 := get_rgb (a := ⟨x, y, f⟩) (b := b) m0 m1 m2 (row4_num 2 _ _ _)
    have e3 := get_rgb (a := ⟨x, y, f⟩) (b := b) z8 z8 z8 (row4_num 2 0 0 0)
    have e4 := get_rgb (a := ⟨x, y, f⟩) (b := b) t8 t8 t8 (row4_num 2 255 255 255)
    have e5 := get_idx (a := ⟨x, y, f⟩) (b := b) h0 (row2_num 5 c0)
    cases b
    · refine cF rfl (hT (row4_ok _ _ _ _) (hT (by decide) (hT (row4_ok _ _ _ _) (hT (by decide) (dT ?_ (dT ?_ (dT ?_ (hT (row4_ok _ _ _ _) (hT (by decide) (cT ?_ (hT (row4_ok _ _ _ _) (hT (by decide) (cT ?_ (hT (row2_ok _ _) (hT (by decide) (cT ?_ (isD_of rfl)))))))))))))))))
      · exact Int.le_trans r1.1 (Int.le_of_eq e1.symm)
      · exact Int.le_trans (Int.le_of_eq e1) (Int.le_trans r3 (Int.le_of_eq e2.symm))
      · exact Int.le_trans (Int.le_of_eq e2) r2.2
      · exact beq_iff_eq.2 (e3.trans k0)
      · exact beq_iff_eq.2 (e4.trans k1)
      · exact beq_iff_eq.2 e5
    · refine cT rfl (hT (row4_ok _ _ _ _) (hT (by decide) (hT (row4_ok _ _ _ _) (hT (by decide) (dT ?_ (dT ?_ (dT ?_ (hT (row4_ok _ _ _ _) (hT (by decide) (cT ?_ (hT (row4_ok _ _ _ _) (hT (by decide) (cT ?_ (hT (row2_ok _ _) (hT (by decide) (cT ?_ (isD_of rfl)))))))))))))))))
      · exact Int.le_trans r1.1 (Int.le_of_eq e1.symm)
      · exact Int.le_trans (Int.le_of_eq e1) (Int.le_trans r3 (Int.le_of_eq e2.symm))
      · exact Int.le_trans (Int.le_of_eq e2) r2.2
      · exact beq_iff_eq.2 (e3.trans k0)
      · exact beq_iff_eq.2 (e4.trans k1)
      · exact beq_iff_eq.2 e5
  · exact cT (chk_ne hok) (isD_of rfl)
noncomputable def lawC6 : ConF := fun args k => match args with
  | [.agg [.v (.int .i64 _), .v (.int .i64 _), .v (.int .i64 _)], .agg [.v (.int .u8 c0), .v (.int .u8 c1), .v (.int .u8 c2), .v (.int .u8 c3), .v (.int .u8 c4), .v (.int .u8 c5)], .v (.bool _)] =>
    bif holds (In8 c0 ∧ In8 c1 ∧ In8 c2 ∧ In8 c3 ∧ In8 c4 ∧ In8 c5) then k fun _ => (.v (.bool true), []) else none
  | _ => none
theorem lawC6_ask {x y f c0 c1 c2 c3 c4 c5 : Int} {b : Bool} {k : (Nat → DV × List (Option DBlk)) → Option Unit} (h : In8 c0 ∧ In8 c1 ∧ In8 c2 ∧ In8 c3 ∧ In8 c4 ∧ In8 c5) (hk : k (fun _ => (.v (.bool true), [])) = some ()) :
    lawC6 [.agg [iv x, iv y, iv f], .agg [bv c0, bv c1, bv c2, bv c3, bv c4, bv c5], .v (.bool b)] k = some () := hT h hk
theorem colT_ok {st : AE.Stat} (hst : CodesIn st) : ∀ x ∈ colT, ConOk Tryd.prog st x.1 x.2 := fun x hx => by
  rcases List.mem_cons.1 hx with rfl | hx
  · exact get_ok hst
  · exact lawT_ok hst x hx
theorem col_ok {st : AE.Stat} (hst : CodesIn st) : ConOk Tryd.prog st 9 lawC6 := by
  refine con_flat (mg := []) (l := colT) (lp := noLp) (n := 0) (glOk hst) (colT_ok hst) Tryd.func9 (by kernel_rfl) (by kernel_rfl) (fun _ _ _ h => nomatch h) fun args k hk => ?_
  unfold lawC6 at hk
  split at hk <;> first | (cases hk; done) | skip
  rename_i x y f c0 c1 c2 c3 c4 c5 b
  obtain ⟨h, hk⟩ := bif_none hk
  obtain ⟨h0, h1, h2, h3, h4, h5⟩ := holds_eq.1 h
  exact ⟨_, _, .self (.self (.self .nil)), flR_clo rfl, hk, col_true x y f c0 c1 c2 c3 c4 c5 b h0 h1 h2 h3 h4 h5⟩
end Go.Proofs.YtolmaphpfhplpaaDoor
