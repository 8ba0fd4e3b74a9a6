/-
  'AttrParts': what the law computes is true.
  Condition: none; a plain law, and the law's tree.
-/
import Derived.Test.YtolmaphpfhplpaaDoorApp3
namespace Go.Proofs.YtolmaphpfhplpaaDoor
open Go Go.AE Go.DE Go.RowKit

/-- Whether 38 or 48 is in a list. -/
def hasN (z : Nat → Int) : Nat → Nat → Bool × Unit
  | 0, _ => (false, ())
  | m + 1, i => bif z i == 38 then (true, ()) else bif z i == 48 then (true, ()) else hasN z m (i + 1)
structure QX where
  z : Nat → Int
  n : Nat
  z' : Nat → Int
  n' : Nat
  t : Bool
  t' : Bool
  a : At
  i : Nat
def QX.r (x : QX) : Bool × Unit := hasN x.z (x.n - x.i) x.i
def paI : LInv QX where
  pre x := x.i ≤ x.n ∧ x.n ≤ 100
  m := 1
  n := 63
  ps := [1, 2, 3, 32, 33, 34]
  sd x := [.sl x.t (ints x.z) 1 x.n, .sl x.t' (ints x.z') 1 x.n', .po 0 0 0, .sl x.t (ints x.z) 1 x.n, iv x.n, iv x.i]
  sh x := [some x.a.b]
  meas x := x.n - x.i
  e x := bif x.r.1 then .ret else .exit 0
  qs := [1, 2, 3, 6]
  od x := bif x.r.1 then [.any, .any, .any, .v (.bool true)] else [.sl x.t (ints x.z) 1 x.n, .sl x.t' (ints x.z') 1 x.n', .po 0 0 0, .any]
  oh x := [some x.a.b]
  guess ds σ := match ds, σ with
    | [.sl t g 1 n, .sl t' g' 1 n', _, _, _, _], some ⟨_, .lst [[.v (.int _ x), .v (.int _ y), .v (.int _ f)]]⟩ :: _ => some ⟨fun i => num (g i 0), n, fun i => num (g' i 0), n', t, t', ⟨x, y, f⟩, 0⟩
    | _, _ => none
  cps x k := bif x.r.1 then k .ret [.any, .any, .any, .v (.bool true)] [some x.a.b] else k (.exit 0) [.sl x.t (ints x.z) 1 x.n, .sl x.t' (ints x.z') 1 x.n', .po 0 0 0, .any] [some x.a.b]
noncomputable abbrev paL : List (FuncId × ConF) := [(12, awC)]
theorem pa_loop (a : At) (t : Bool) (z : Nat → Int) (n i : Nat) (t' : Bool) (z' : Nat → Int) (n' : Nat) (K : Ex → Nat → List DV → List DV → DHeap → Option Unit) : execD Tryd.prog (env paL noLp 0) (loopAt Tryd.f8 58) 500 (temps 63 [1, 2, 3, 32, 33, 34] [.sl t (ints z) 1 n, .sl t' (ints z') 1 n', .po 0 0 0, .sl t (ints z) 1 n, iv n, iv i]) [some a.b] (fun e τ σ => K e τ.length (pick [1, 2, 3, 32, 33, 34] τ) (pick [1, 2, 3, 6] τ) σ) =
    bif decide ((↑i : Int) < (↑n : Int)) then
      bif decide ((↑i : Int) < (↑n : Int)) then
        bif decide (Int.toNat (↑i : Int) + (0 : Nat) < n) then
          bif z (Int.toNat (↑i : Int) + (0 : Nat)) == (38 : Int) then
            K Ex.ret (63 : Nat)
              [DV.sl t (fun a a_1 => DV.v (Value.int IntKind.i64 (z a))) (1 : Nat) n,
                DV.sl t' (fun a a_1 => DV.v (Value.int IntKind.i64 (z' a))) (1 : Nat) n',
                DV.po (0 : Nat) (0 : Nat) (0 : Nat), DV.sl t (fun a a_1 => DV.v (Value.int IntKind.i64 (z a))) (1 : Nat) n,
                DV.v (Value.int IntKind.i64 (↑n : Int)), DV.v (Value.int IntKind.i64 (↑i : Int))]
              [DV.sl t (fun a a_1 => DV.v (Value.int IntKind.i64 (z a))) (1 : Nat) n,
                DV.sl t' (fun a a_1 => DV.v (Value.int IntKind.i64 (z' a))) (1 : Nat) n',
                DV.po (0 : Nat) (0 : Nat) (0 : Nat), DV.v (Value.bool true)]
              [some
                  { k := (3 : Nat),
                    c :=
                      DC.lst
                        [[DV.v (Value.int IntKind.i64 (At.x a)), DV.v (Value.int IntKind.i64 (At.y a)),
                            DV.v (Value.int IntKind.i64 (At.f a))]] }]
          else
            bif z (Int.toNat (↑i : Int) + (0 : Nat)) == (48 : Int) then
              K Ex.ret (63 : Nat)
                [DV.sl t (fun a a_1 => DV.v (Value.int IntKind.i64 (z a))) (1 : Nat) n,
                  DV.sl t' (fun a a_1 => DV.v (Value.int IntKind.i64 (z' a))) (1 : Nat) n',
                  DV.po (0 : Nat) (0 : Nat) (0 : Nat),
                  DV.sl t (fun a a_1 => DV.v (Value.int IntKind.i64 (z a))) (1 : Nat) n,
                  DV.v (Value.int IntKind.i64 (↑n : Int)), DV.v (Value.int IntKind.i64 (↑i : Int))]
                [DV.sl t (fun a a_1 => DV.v (Value.int IntKind.i64 (z a))) (1 : Nat) n,
                  DV.sl t' (fun a a_1 => DV.v (Value.int IntKind.i64 (z' a))) (1 : Nat) n',
                  DV.po (0 : Nat) (0 : Nat) (0 : Nat), DV.v (Value.bool true)]
                [some
                    { k := (3 : Nat),
                      c :=
                        DC.lst
                          [[DV.v (Value.int IntKind.i64 (At.x a)), DV.v (Value.int IntKind.i64 (At.y a)),
                              DV.v (Value.int IntKind.i64 (At.f a))]] }]
            else
              K Ex.normal (63 : Nat)
                [DV.sl t (fun a a_1 => DV.v (Value.int IntKind.i64 (z a))) (1 : Nat) n,
                  DV.sl t' (fun a a_1 => DV.v (Value.int IntKind.i64 (z' a))) (1 : Nat) n',
                  DV.po (0 : Nat) (0 : Nat) (0 : Nat),
                  DV.sl t (fun a a_1 => DV.v (Value.int IntKind.i64 (z a))) (1 : Nat) n,
                  DV.v (Value.int IntKind.i64 (↑n : Int)),
                  DV.v (Value.int IntKind.i64 (IntKind.wrap IntKind.i64 ((↑i : Int) + (1 : Int))))]
                [DV.sl t (fun a a_1 => DV.v (Value.int IntKind.i64 (z a))) (1 : Nat) n,
                  DV.sl t' (fun a a_1 => DV.v (Value.int IntKind.i64 (z' a))) (1 : Nat) n',
                  DV.po (0 : Nat) (0 : Nat) (0 : Nat), DV.any]
                [some
                    { k := (3 : Nat),
                      c :=
                        DC.lst
                          [[DV.v (Value.int IntKind.i64 (At.x a)), DV.v (Value.int IntKind.i64 (At.y a)),
                              DV.v (Value.int IntKind.i64 (At.f a))]] }]
        else none
      else none
    else
      K (Ex.exit (0 : Nat)) (63 : Nat)
        [DV.sl t (fun a a_1 => DV.v (Value.int IntKind.i64 (z a))) (1 : Nat) n,
          DV.sl t' (fun a a_1 => DV.v (Value.int IntKind.i64 (z' a))) (1 : Nat) n', DV.po (0 : Nat) (0 : Nat) (0 : Nat),
          DV.sl t (fun a a_1 => DV.v (Value.int IntKind.i64 (z a))) (1 : Nat) n, DV.v (Value.int IntKind.i64 (↑n : Int)),
          DV.v (Value.int IntKind.i64 (↑i : Int))]
        [DV.sl t (fun a a_1 => DV.v (Value.int IntKind.i64 (z a))) (1 : Nat) n,
          DV.sl t' (fun a a_1 => DV.v (Value.int IntKind.i64 (z' a))) (1 : Nat) n', DV.po (0 : Nat) (0 : Nat) (0 : Nat),
          DV.any]
        [some
            { k := (3 : Nat),
              c :=
                DC.lst
                  [[DV.v (Value.int IntKind.i64 (At.x a)), DV.v (Value.int IntKind.i64 (At.y a)),
                      DV.v (Value.int IntKind.i64 (At.f a))]] }] := by
  kernel_rfl
theorem pa_ls {st : AE.Stat} (hst : CodesIn st) : LoopS Tryd.prog st gl0 (.loop (loopAt Tryd.f8 58)) paI.g := by
  have hl : ∀ x ∈ paL, ConOk Tryd.prog st x.1 x.2 := fun x hx => by
    simp only [paL, List.mem_cons, List.not_mem_nil, or_false] at hx
    subst hx
    exact aw_ok hst
  refine paI.ok (E := env paL noLp 0) (p := 500) (tblD_env hl) (glOk hst).1 (fun _ _ _ h => nomatch h) (fun x k h => ?_) fun x hx => ?_
  · simp only [paI] at h ⊢
    generalize x.r.1 = b at h ⊢
    cases b <;> exact h
  · obtain ⟨z, n, z', n', t, t', a, i⟩ := x
    obtain ⟨h1, h2⟩ : i ≤ n ∧ n ≤ 100 := hx
    refine (pa_loop a t z n i t' z' n' _).trans ?_
    have hW : IntKind.i64.wrap ((i : Int) + 1) = ((i + 1 : Nat) : Int) := by rw [W_in (by omega) (by omega)]; omega
    simp only [hW, Int.toNat_natCast, Nat.add_zero]
    have ret : ∀ {ds : List DV} {d1 d2 d3 : DV}, hasN z (n - i) i = (true, ()) → paI.ask ⟨z, n, z', n', t, t', a, i⟩ .ret 63 ds [d1, d2, d3, .v (.bool true)] [some a.b] = some () := fun {ds d1 d2 d3} hr => by
      have hr : QX.r ⟨z, n, z', n', t, t', a, i⟩ = (true, ()) := hr
      refine LInv.ask_of ⟨rfl, ?_, [], ?_⟩
      · simp only [paI, hr]; rfl
      · simp only [paI, hr]
        exact .of (im := [some 0]) (.cons (.any _) (.cons (.any _) (.cons (.any _) (.cons (.v _) .nil)))) rfl ⟨⟨0, _, rfl, rfl, subA⟩, trivial⟩ rfl (by decide)
    refine dS (fun h => ?_) fun h => ?_
    · have h : i < n := by omega
      obtain ⟨m, hm⟩ : ∃ m, n - i = m + 1 := ⟨n - i - 1, by omega⟩
      refine dT (by omega) (dT h ?_)
      refine cS (fun h38 => ret ?_) fun h38 => cS (fun h48 => ret ?_) fun h48 => ?_
      · rw [hm, hasN, h38, cond_true]
      · rw [hm, hasN, h38, cond_false, h48, cond_true]
      · have hr : QX.r ⟨z, n, z', n', t, t', a, i + 1⟩ = QX.r ⟨z, n, z', n', t, t', a, i⟩ := by
          simp only [QX.r, hm, hasN, h38, h48, cond_false, show n - (i + 1) = m by omega]
        refine LInv.ask_of ⟨rfl, ⟨z, n, z', n', t, t', a, i + 1⟩, ⟨?_, ?_, rfl, h, h2⟩, ?_, [], .of (im := [some 0]) (.cons (.sl _ _ _ _) (.cons (.sl _ _ _ _) (.cons (.po rfl) (.cons (.sl _ _ _ _) (.cons (.v _) (.cons (.v _) .nil)))))) rfl ⟨⟨0, _, rfl, rfl, subA⟩, trivial⟩ rfl (by decide)⟩
        · simp only [paI, hr]
        · simp only [paI, hr]
        · simp only [paI]; omega
    · obtain rfl : i = n := by omega
      have hr : QX.r ⟨z, i, z', n', t, t', a, i⟩ = (false, ()) := by
        simp only [QX.r, Nat.sub_self, hasN]
      refine LInv.ask_of ⟨rfl, ?_, [], ?_⟩
      · simp only [paI, hr]; rfl
      · simp only [paI, hr]
        exact .of (im := [some 0]) (.cons (.sl _ _ _ _) (.cons (.sl _ _ _ _) (.cons (.po rfl) (.cons (.any _) .nil)))) rfl ⟨⟨0, _, rfl, rfl, subA⟩, trivial⟩ rfl (by decide)

/-- Two lists, one behind the other. -/
def joined (z : Nat → Int) (n : Nat) (z' : Nat → Int) : Nat → Int := fun j => if j < n then z j else z' (j - n)
abbrev cat0 : DC := (blockOf 1 (zerosD [iv 0] 0)).c
abbrev cat1 (z : Nat → Int) (n : Nat) : DC := appC cat0 0 (.tab n (ints z))
abbrev cat2 (z : Nat → Int) (n : Nat) (z' : Nat → Int) (n' : Nat) : DC := appC (cat1 z n) (0 + n) (.tab n' (ints z'))
theorem cat1_n (z : Nat → Int) (n : Nat) : (cat1 z n).n = 0 + n := appC_n (Nat.zero_le _)
theorem cat2_n (z : Nat → Int) (n : Nat) (z' : Nat → Int) (n' : Nat) : (cat2 z n z' n').n = 0 + n + n' := appC_n (Nat.le_of_eq (cat1_n z n).symm)
theorem cat2_get (z : Nat → Int) (n : Nat) (z' : Nat → Int) (n' j : Nat) : (cat2 z n z' n').get j 0 = iv (joined z n z' j) := by
  rw [appC_get (Nat.le_of_eq (cat1_n z n).symm)]
  unfold joined
  by_cases h : j < n
  · rw [if_pos (by omega), if_pos h, appC_get (Nat.zero_le _), if_neg (by omega)]
    rfl
  · rw [if_neg (by omega), if_neg h, show j - (0 + n) = j - n by omega]
    rfl
theorem cat2_num (z : Nat → Int) (n : Nat) (z' : Nat → Int) (n' : Nat) : (fun i => num ((fun j f => lend1 ((cat2 z n z' n').get (0 + j) f)) i 0)) = joined z n z' := by
  funext i
  show num (lend1 ((cat2 z n z' n').get (0 + i) 0)) = _
  rw [cat2_get, Nat.zero_add]
  rfl
theorem cat2_ok (z : Nat → Int) (n : Nat) (z' : Nat → Int) (n' m : Nat) : intsOk (fun j f => lend1 ((cat2 z n z' n').get (0 + j) f)) m := fun i _ => by
  show lend1 ((cat2 z n z' n').get (0 + i) 0) = iv (num (lend1 ((cat2 z n z' n').get (0 + i) 0)))
  rw [cat2_get]
  rfl
theorem hasN_none {z : Nat → Int} : ∀ {m i : Nat}, (hasN z m i).1 = false → ∀ j, i ≤ j → j < i + m → z j ≠ 38 ∧ z j ≠ 48
  | 0, i, _, j, h1, h2 => by omega
  | m + 1, i, h, j, h1, h2 => by
    rw [hasN] at h
    cases h38 : z i == 38 <;> rw [h38] at h
    · rw [cond_false] at h
      cases h48 : z i == 48 <;> rw [h48] at h
      · rw [cond_false] at h
        by_cases e : j = i
        · subst e
          exact ⟨by simpa using h38, by simpa using h48⟩
        · exact hasN_none h j (by omega) (by omega)
      · cases h
    · cases h
theorem nums_joined {z z' : Nat → Int} {n n' : Nat} (h : n ≠ 0) (h' : n' ≠ 0) : nums (joined z n z') (0 + n + n') = nums z n ++ nums z' n' := by
  unfold nums
  rw [if_neg h, if_neg h', if_neg (by omega)]
  refine List.ext_getElem (by simp) fun i h1 h2 => ?_
  simp only [List.length_map, List.length_range] at h1
  by_cases hi : i < n
  · rw [List.getElem_append_left (by simpa using hi)]
    simp only [List.getElem_map, List.getElem_range, mx, joined, if_pos hi]
  · rw [List.getElem_append_right (by simpa using hi)]
    simp only [List.getElem_map, List.getElem_range, mx, joined, if_neg hi, List.length_map, List.length_range]
theorem parts_eq {z z' : Nat → Int} {n n' : Nat} (h : n ≠ 0) (h' : n' ≠ 0) (hn : ∀ j, j < n → z j ≠ 38 ∧ z j ≠ 48) (a : At) : applyF a (joined z n z') (0 + n + n') = applyF (applyF a z n) z' n' := by
  have hA : ∀ v ∈ nums z n, ¬ (v = 38 ∨ v = 48) := by
    intro v hv
    unfold nums at hv
    rw [if_neg h] at hv
    obtain ⟨j, hj, rfl⟩ := List.mem_map.1 hv
    have := hn j (List.mem_range.1 hj)
    unfold mx
    split <;> omega
  have e1 : run (nums z n) a = (false, (nums z n).foldl stepA a) := by
    have := run_app (B := []) (nums z n) a hA
    rw [List.append_nil] at this
    exact this
  rw [apply_run, apply_run, apply_run, nums_joined h h', run_app _ _ hA, e1]

theorem pa_tree (x y f : Int) (t : Bool) (z : Nat → Int) (n : Nat) (t' : Bool) (z' : Nat → Int) (n' : Nat) (k : DV → Option Unit) : bodyD Tryd.prog (env lawT (lpOf [(58, paI.g)]) 0) Tryd.f8 [.agg [iv x, iv y, iv f], .sl t (ints z) 1 n, .sl t' (ints z') 1 n'] [] (fun d _ => k d) =
    bif chkF { x := x, y := y, f := f } != (0 : Int) then k (DV.v (Value.bool true))
    else
      bif (↑n : Int) == (0 : Int) then k (DV.v (Value.bool true))
      else
        bif (↑n' : Int) == (0 : Int) then k (DV.v (Value.bool true))
        else
          bif decide (IntKind.wrap IntKind.i64 ((↑n : Int) + (↑n' : Int)) > (40 : Int)) then k (DV.v (Value.bool true))
          else
            bif
                holds
                  (LInv.pre paI
                      { z := z, n := n, z' := z', n' := n', t := t, t' := t', a := { x := x, y := y, f := f },
                        i := (0 : Nat) } ∧
                    ∃ ids,
                      WkP (1 : Nat) ids
                        [DV.sl t (fun a a_1 => DV.v (Value.int IntKind.i64 (z a))) (1 : Nat) n,
                          DV.sl t' (fun a a_1 => DV.v (Value.int IntKind.i64 (z' a))) (1 : Nat) n',
                          DV.po (0 : Nat) (0 : Nat) (0 : Nat),
                          DV.sl t (fun a a_1 => DV.v (Value.int IntKind.i64 (z a))) (1 : Nat) n,
                          DV.v (Value.int IntKind.i64 (↑n : Int)), DV.v (Value.int IntKind.i64 (0 : Int))]
                        [some
                            { k := (3 : Nat),
                              c :=
                                DC.lst
                                  [[DV.v (Value.int IntKind.i64 x), DV.v (Value.int IntKind.i64 y),
                                      DV.v (Value.int IntKind.i64 f)]] }]
                        [DV.sl t (fun a a_1 => DV.v (Value.int IntKind.i64 (z a))) (1 : Nat) n,
                          DV.sl t' (fun a a_1 => DV.v (Value.int IntKind.i64 (z' a))) (1 : Nat) n',
                          DV.po (0 : Nat) (0 : Nat) (0 : Nat),
                          DV.sl t (fun a a_1 => DV.v (Value.int IntKind.i64 (z a))) (1 : Nat) n,
                          DV.v (Value.int IntKind.i64 (↑n : Int)), DV.v (Value.int IntKind.i64 (0 : Int))]
                        [some
                            { k := (3 : Nat),
                              c :=
                                DC.lst
                                  [[DV.v (Value.int IntKind.i64 x), DV.v (Value.int IntKind.i64 y),
                                      DV.v (Value.int IntKind.i64 f)]] }]) then
              bif
                  (QX.r
                      { z := z, n := n, z' := z', n' := n', t := t, t' := t', a := { x := x, y := y, f := f },
                        i := (0 : Nat) }).1 then
                k (DV.v (Value.bool true))
              else
                bif decide (((0 : Nat) + n) * (8 : Nat) ≤ (140737488355328 : Nat)) then
                  bif
                      decide
                        ((0 : Nat) + n ≤
                          DC.n
                            (appC (DBlk.c (blockOf (1 : Nat) (zerosD [DV.v (Value.int IntKind.i64 (0 : Int))] (0 : Nat))))
                              (0 : Nat) (DC.tab n (ints z)))) then
                    bif decide (((0 : Nat) + n + n') * (8 : Nat) ≤ (140737488355328 : Nat)) then
                      bif holds (intsOk (fun i f => DV.v (Value.int IntKind.i64 (z i))) n) then
                        bif holds (n ≤ (1000000 : Nat)) then
                          bif holds (intsOk (fun i f => DV.v (Value.int IntKind.i64 (z' i))) n') then
                            bif holds (n' ≤ (1000000 : Nat)) then
                              bif
                                  decide
                                    ((0 : Nat) + ((0 : Nat) + n + n') ≤
                                      DC.n
                                        (appC
                                          (appC
                                            (DBlk.c
                                              (blockOf (1 : Nat)
                                                (zerosD [DV.v (Value.int IntKind.i64 (0 : Int))] (0 : Nat))))
                                            (0 : Nat) (DC.tab n (ints z)))
                                          ((0 : Nat) + n) (DC.tab n' (ints z')))) then
                                bif
                                    holds
                                      (intsOk
                                        (fun j f =>
                                          lend1
                                            (DC.get
                                              (appC
                                                (appC
                                                  (DBlk.c
                                                    (blockOf (1 : Nat)
                                                      (zerosD [DV.v (Value.int IntKind.i64 (0 : Int))] (0 : Nat))))
                                                  (0 : Nat) (DC.tab n (ints z)))
                                                ((0 : Nat) + n) (DC.tab n' (ints z')))
                                              ((0 : Nat) + j) f))
                                        ((0 : Nat) + n + n')) then
                                  bif holds ((0 : Nat) + n + n' ≤ (1000000 : Nat)) then
                                    bif
                                        bif
                                            At.x (applyF (applyF { x := x, y := y, f := f } z n) z' n') ==
                                              At.x
                                                (applyF { x := x, y := y, f := f }
                                                  (fun i =>
                                                    num
                                                      ((fun j f =>
                                                          lend1
                                                            (DC.get
                                                              (appC
                                                                (appC
                                                                  (DBlk.c
                                                                    (blockOf (1 : Nat)
                                                                      (zerosD [DV.v (Value.int IntKind.i64 (0 : Int))]
                                                                        (0 : Nat))))
                                                                  (0 : Nat) (DC.tab n (ints z)))
                                                                ((0 : Nat) + n) (DC.tab n' (ints z')))
                                                              ((0 : Nat) + j) f))
                                                        i (0 : Nat)))
                                                  ((0 : Nat) + n + n')) then
                                          bif
                                              At.y (applyF (applyF { x := x, y := y, f := f } z n) z' n') ==
                                                At.y
                                                  (applyF { x := x, y := y, f := f }
                                                    (fun i =>
                                                      num
                                                        ((fun j f =>
                                                            lend1
                                                              (DC.get
                                                                (appC
                                                                  (appC
                                                                    (DBlk.c
                                                                      (blockOf (1 : Nat)
                                                                        (zerosD [DV.v (Value.int IntKind.i64 (0 : Int))]
                                                                          (0 : Nat))))
                                                                    (0 : Nat) (DC.tab n (ints z)))
                                                                  ((0 : Nat) + n) (DC.tab n' (ints z')))
                                                                ((0 : Nat) + j) f))
                                                          i (0 : Nat)))
                                                    ((0 : Nat) + n + n')) then
                                            bif
                                                At.f (applyF (applyF { x := x, y := y, f := f } z n) z' n') ==
                                                  At.f
                                                    (applyF { x := x, y := y, f := f }
                                                      (fun i =>
                                                        num
                                                          ((fun j f =>
                                                              lend1
                                                                (DC.get
                                                                  (appC
                                                                    (appC
                                                                      (DBlk.c
                                                                        (blockOf (1 : Nat)
                                                                          (zerosD [DV.v (Value.int IntKind.i64 (0 : Int))]
                                                                            (0 : Nat))))
                                                                      (0 : Nat) (DC.tab n (ints z)))
                                                                    ((0 : Nat) + n) (DC.tab n' (ints z')))
                                                                  ((0 : Nat) + j) f))
                                                            i (0 : Nat)))
                                                      ((0 : Nat) + n + n')) then
                                              true
                                            else false
                                          else false
                                        else false then
                                      k (DV.v (Value.bool true))
                                    else k (DV.v (Value.bool false))
                                  else none
                                else none
                              else none
                            else none
                          else none
                        else none
                      else none
                    else none
                  else none
                else none
            else none := by
  kernel_rfl
theorem pa_true (x y f : Int) (t : Bool) (z : Nat → Int) (n : Nat) (t' : Bool) (z' : Nat → Int) (n' : Nat) (hb : n ≤ 1000000000000000000 ∧ n' ≤ 1000000000000000000) : bodyD Tryd.prog (env lawT (lpOf [(58, paI.g)]) 0) Tryd.f8 [.agg [iv x, iv y, iv f], .sl t (ints z) 1 n, .sl t' (ints z') 1 n'] [] (fun d _ => isD (.v (.bool true)) d) = some () := by
  refine (pa_tree x y f t z n t' z' n' _).trans ?_
  by_cases hok : At.Ok ⟨x, y, f⟩
  · refine cF (chk_eq hok) (cS (fun _ => isD_of rfl) fun hz => cS (fun _ => isD_of rfl) fun hz' => dS (fun _ => isD_of rfl) fun hs => ?_)
    have hz : n ≠ 0 := fun e => by subst e; simp at hz
    have hz' : n' ≠ 0 := fun e => by subst e; simp at hz'
    have hs : n + n' ≤ 40 := by
      rw [W_in (by omega) (by omega)] at hs
      omega
    refine hT ⟨⟨Nat.zero_le _, by show n ≤ 100; omega⟩, [], .of (im := [some 0]) (.cons (.sl _ _ _ _) (.cons (.sl _ _ _ _) (.cons (.po rfl) (.cons (.sl _ _ _ _) (.cons (.v _) (.cons (.v _) .nil)))))) rfl ⟨⟨0, _, rfl, rfl, subA⟩, trivial⟩ rfl (by decide)⟩ ?_
    refine cS (fun _ => isD_of rfl) fun hr => ?_
    have hr : ∀ j, j < n → z j ≠ 38 ∧ z j ≠ 48 := fun j hj => hasN_none (m := n - 0) (i := 0) hr j (Nat.zero_le _) (by omega)
    refine dT (by omega) (dT (Nat.le_of_eq (cat1_n z n).symm) (dT (by omega) (hT intsOk_iv (hT (by omega) (hT intsOk_iv (hT (by omega) (dT ?_ (hT (cat2_ok z n z' n' _) (hT (by omega) (cT ?_ (isD_of rfl)))))))))))
    · rw [Nat.zero_add]
      exact Nat.le_of_eq (cat2_n z n z' n').symm
    · have e := cat2_num z n z' n'
      rw [e, parts_eq hz hz' hr]
      simp
  · exact cT (chk_ne hok) (isD_of rfl)
noncomputable def lawC5 : ConF := fun args k => match args with
  | [.agg [.v (.int .i64 _), .v (.int .i64 _), .v (.int .i64 _)], d, e] => intsK d fun _ n => intsK e fun _ n' => bif holds (n ≤ 1000000000000000000 ∧ n' ≤ 1000000000000000000) then k fun _ => (.v (.bool true), []) else none
  | _ => none
theorem lawC5_ask {x y f : Int} {t t' : Bool} {z z' : Nat → Int} {n n' : Nat} {k : (Nat → DV × List (Option DBlk)) → Option Unit} (hn : n ≤ 1000000000000000000) (hn' : n' ≤ 1000000000000000000) (hk : k (fun _ => (.v (.bool true), [])) = some ()) :
    lawC5 [.agg [iv x, iv y, iv f], .sl t (ints z) 1 n, .sl t' (ints z') 1 n'] k = some () := by
  show intsK (.sl t (ints z) 1 n) (fun _ n => intsK (.sl t' (ints z') 1 n') fun _ n' => bif holds (n ≤ 1000000000000000000 ∧ n' ≤ 1000000000000000000) then k fun _ => (.v (.bool true), []) else none) = some ()
  refine intsK_ints ?_
  show intsK (.sl t' (ints z') 1 n') (fun _ n' => bif holds (n ≤ 1000000000000000000 ∧ n' ≤ 1000000000000000000) then k fun _ => (.v (.bool true), []) else none) = some ()
  exact intsK_ints (hT ⟨hn, hn'⟩ hk)
theorem parts_ok {st : AE.Stat} (hst : CodesIn st) : ConOk Tryd.prog st 8 lawC5 := by
  refine con_flat (mg := []) (l := lawT) (lp := lpOf [(58, paI.g)]) (n := 0) (glOk hst) (lawT_ok hst) Tryd.func8 (by kernel_rfl) (by kernel_rfl) (lp_one (by kernel_rfl) (pa_ls hst)) fun args k hk => ?_
  unfold lawC5 at hk
  split at hk <;> first | (cases hk; done) | skip
  rename_i x y f d e
  obtain ⟨t, z, n, hk, hc⟩ := intsK_some hk
  obtain ⟨t', z', n', hk, hc'⟩ := intsK_some hk
  obtain ⟨hn, hk⟩ := bif_none hk
  exact ⟨[.agg [iv x, iv y, iv f], .sl t (ints z) 1 n, .sl t' (ints z') 1 n'], _, .self (.cons hc (.cons hc' .nil)), flR_clo rfl, hk, pa_true x y f t z n t' z' n' (holds_eq.1 hn)⟩
end Go.Proofs.YtolmaphpfhplpaaDoor
