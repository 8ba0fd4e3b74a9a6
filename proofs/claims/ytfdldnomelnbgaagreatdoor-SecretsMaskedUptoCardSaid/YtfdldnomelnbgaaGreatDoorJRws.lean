/-
 The contracts of copies of rows and of the mask over rows.
 Conditions: none beyond those of the contracts.
-/
import Derived.Test.YtfdldnomelnbgaaGreatDoorJRc
import Derived.Test.YtfdldnomelnbgaaGreatDoorJPr2
import Derived.Test.YtfdldnomelnbgaaGreatDoorDeNd
namespace Go.Proofs.YtfdldnomelnbgaaGreatDoor
open Go Go.AE Go.DE Go.RowKit

/-- Rows whose copies are not nil. -/
def rowPos (g : Nat → Nat → DV) (n : Nat) : Prop := cellsOk g n ∧ 0 < n
noncomputable def clC : ConF := fun args k => match args with
 | [.sl _ g 5 n] => bif holds (rowPos g n) then k (fun b => (.os b 0 n, [some ⟨5, .tab n (rowOf g n).cell⟩])) else none
 | _ => none
theorem lowR_row {b n : Nat} {r : Row} : LowR (.os b 0 n, [some ⟨5, .tab n r.cell⟩]) := ⟨.os _ _ _, fun id blk hb i f _ _ => by
 cases id with
 | succ id => simp at hb
 | zero =>
  obtain rfl : (⟨5, .tab n r.cell⟩ : DBlk) = blk := by simpa using hb
  show Low (r.cell i f)
  match f with
  | 0 => exact .v _
  | 1 => exact .v _
  | 2 => exact .v _
  | 3 => exact .v _
  | _ + 4 => exact .v _⟩
theorem clC_ok {st : AE.Stat} (hx : ∀ f, exA f = false → ∀ a σ, st.ext f a σ = none) : ConOk Tryz.prog st 61 clC := by
 refine con_of (mg := []) (l := []) (lp := noLp) (n := 0) (glOk st) (fun _ h => nomatch h) Tryz.func61 (by kernel_rfl) (by kernel_rfl) (hx 61 rfl) (fun _ _ _ h => nomatch h) fun args k hk => ?_
 unfold clC at hk
 split at hk <;> first | (cases hk; done) | skip
 rename_i t g n
 obtain ⟨hb, hk⟩ := bif_none hk
 obtain ⟨hb, hp⟩ := holds_eq.1 hb
 have hn := hb.1
 refine ⟨[.sl t (rowOf g n).cell 5 n], _, .cons (hb.cv t) .nil, hk, fun b => ⟨lowR_row, (cl_tree t (rowOf g n) _).trans (dT hp ?_)⟩⟩
 have hz : 0 + (rowOf g n).n = n := Nat.zero_add _
 rw [hz]
 refine dT (by omega) (fin_of ?_)
 exact finQ_own (id := 1) (blk := ⟨5, .app (.pre (.lst []) 0) (.tab n (rowOf g n).cell)⟩) rfl rfl rfl (by show n ≤ 0 + n; omega) trivial fun i f hi hf => ⟨Row.clo _ _ _, by
  show (if i < 0 then _ else (rowOf g n).cell (i - 0) f) = _
  rw [if_neg (Nat.not_lt_zero _)]; rfl⟩
def boolD : DV → Bool
 | .v (.bool b) => b
 | _ => false
/-- Tabs, not none. -/
def tabsAre (g : Nat → Nat → DV) (n : Nat) : Prop := n ≤ 9000000 ∧ 0 < n ∧ ∀ i, i < n → g i 0 = bv (boolD (g i 0))
noncomputable def cbC (Q : (Nat → Nat → DV) → Nat → Prop) : ConF := fun args k => match args with
 | [.sl _ g 1 n] => bif holds (Q g n) then k (fun _ => (.sl false (tabsD fun i => boolD (g i 0)) 1 n, [])) else none
 | _ => none
theorem ro0_loop (t : Bool) (R : Nat → Row) (T : Nat → Bool) (n i : Nat) (K : Ex → Nat → List DV → List DV → DHeap → Option Unit) : execD Tryz.prog (envZ [(61, clC)] (lpOf [(256410, miI.g)]) 0) (loopAt Tryz.f22 58) 500 (temps 35 [1, 5, 10, 11, 12] [fnD, .v (.slice none 0 0), .sl t (rowsD T R) 1 n, iv n, iv i]) [none] (fun e τ σ => K e τ.length (pick [1, 5, 10, 11, 12] τ) (pick [5] τ) σ) =
  bif decide ((i : Int) < (n : Int)) then bif decide ((i : Int) < (n : Int)) then bif decide (tN i < n) then bif holds ((Nat.le (Row.n (R (tN i))) 9000000 ∧ ∀ (i_1 : Nat), i_1 < Row.n (R (tN i)) → sv (Row.tx (R (tN i)) i_1) = sv (strD (sv (Row.tx (R (tN i)) i_1))) ∧ Nat.le (ByteArray.size (strD (sv (Row.tx (R (tN i)) i_1)))) 9000000 ∧ iv (Row.wd (R (tN i)) i_1) = iv (numD (iv (Row.wd (R (tN i)) i_1))) ∧ iv (Row.fo (R (tN i)) i_1) = iv (numD (iv (Row.fo (R (tN i)) i_1))) ∧ iv (Row.ba (R (tN i)) i_1) = iv (numD (iv (Row.ba (R (tN i)) i_1))) ∧ iv (Row.fl (R (tN i)) i_1) = iv (numD (iv (Row.fl (R (tN i)) i_1)))) ∧ Nat.le 1 (Row.n (R (tN i))))
  then bif holds (YX.ok { o := none, d5 := DV.v (Value.slice none 0 0), d10 := DV.sl t (rowsD T R) 1 n, d11 := iv (n : Int), d12 := iv (i : Int), r := rowOf (DC.get (.tab (Row.n (R (tN i))) (Row.cell (rowOf (Row.cell (R (tN i))) (Row.n (R (tN i))))))) (Row.n (R (tN i))), i := 0 } ∧ ∃ ids, WkP 2 ids [.fn (Fn.func 23) [] [], DV.v (Value.slice none 0 0), .os 1 0 (Row.n (R (tN i))), .sl t (fun a a_1 => DV.sl (T a) (Row.cell (R a)) 5 (Row.n (R a))) 1 n, iv (n : Int), iv (i : Int), iv (↑(Row.n (R (tN i))) : Int), iv 0] [none, some ⟨5, .tab (Row.n (R (tN i))) (Row.cell (rowOf (Row.cell (R (tN i))) (Row.n (R (tN i)))))⟩] [.fn (Fn.func 23) [] [], DV.v (Value.slice none 0 0), .os 1 0 (Row.n (rowOf (DC.get (.tab (Row.n (R (tN i))) (Row.cell (rowOf (Row.cell (R (tN i))) (Row.n (R (tN i))))))) (Row.n (R (tN i))))), .sl t (fun a a_1 => DV.sl (T a) (Row.cell (R a)) 5 (Row.n (R a))) 1 n, iv (n : Int), iv (i : Int), iv (↑(Row.n (rowOf (DC.get (.tab (Row.n (R (tN i))) (Row.cell (rowOf (Row.cell (R (tN i))) (Row.n (R (tN i))))))) (Row.n (R (tN i))))) : Int), iv 0] [none, some ⟨5, .tab (Row.n (rowOf (DC.get (.tab (Row.n (R (tN i))) (Row.cell (rowOf (Row.cell (R (tN i))) (Row.n (R (tN i))))))) (Row.n (R (tN i))))) (Row.cell (Row.mkd (rowOf (DC.get (.tab (Row.n (R (tN i))) (Row.cell (rowOf (Row.cell (R (tN i))) (Row.n (R (tN i))))))) (Row.n (R (tN i)))) 0))⟩])
  then K .normal 35 [.fn (Fn.func 23) [] [], .os 3 0 1, .sl t (fun a a_1 => DV.sl (T a) (Row.cell (R a)) 5 (Row.n (R a))) 1 n, iv (n : Int), iv (IntKind.wrap .i64 ((i : Int) + 1))] [.os 3 0 1] [none, some ⟨5, .tab (Row.n (rowOf (DC.get (.tab (Row.n (R (tN i))) (Row.cell (rowOf (Row.cell (R (tN i))) (Row.n (R (tN i))))))) (Row.n (R (tN i))))) (Row.cell (Row.mkd (rowOf (DC.get (.tab (Row.n (R (tN i))) (Row.cell (rowOf (Row.cell (R (tN i))) (Row.n (R (tN i))))))) (Row.n (R (tN i)))) (Row.n (rowOf (DC.get (.tab (Row.n (R (tN i))) (Row.cell (rowOf (Row.cell (R (tN i))) (Row.n (R (tN i))))))) (Row.n (R (tN i)))))))⟩, some ⟨1, .lst [[.os 1 0 (Row.n (rowOf (DC.get (.tab (Row.n (R (tN i))) (Row.cell (rowOf (Row.cell (R (tN i))) (Row.n (R (tN i))))))) (Row.n (R (tN i)))))]]⟩, some ⟨1, .lst [[.os 1 0 (Row.n (rowOf (DC.get (.tab (Row.n (R (tN i))) (Row.cell (rowOf (Row.cell (R (tN i))) (Row.n (R (tN i))))))) (Row.n (R (tN i)))))]]⟩]
  else none else none else none else none else K (.exit 0) 35 [.fn (Fn.func 23) [] [], DV.v (Value.slice none 0 0), .sl t (fun a a_1 => DV.sl (T a) (Row.cell (R a)) 5 (Row.n (R a))) 1 n, iv (n : Int), iv (i : Int)] [DV.v (Value.slice none 0 0)] [none] := by
 kernel_rfl
theorem ro1_loop (t : Bool) (R : Nat → Row) (T : Nat → Bool) (n i m : Nat) (Q : Nat → Row) (K : Ex → Nat → List DV → List DV → DHeap → Option Unit) : execD Tryz.prog (envZ [(61, clC)] (lpOf [(256410, miI.g)]) 0) (loopAt Tryz.f22 58) 500 (temps 35 [1, 5, 10, 11, 12] [fnD, .os 0 0 m, .sl t (rowsD T R) 1 n, iv n, iv i]) [some ⟨1, .tab m (rowsD (fun _ => false) Q)⟩] (fun e τ σ => K e τ.length (pick [1, 5, 10, 11, 12] τ) (pick [5] τ) σ) =
  bif decide ((i : Int) < (n : Int)) then bif decide ((i : Int) < (n : Int)) then bif decide (tN i < n) then bif holds ((Nat.le (Row.n (R (tN i))) 9000000 ∧ ∀ (i_1 : Nat), i_1 < Row.n (R (tN i)) → sv (Row.tx (R (tN i)) i_1) = sv (strD (sv (Row.tx (R (tN i)) i_1))) ∧ Nat.le (ByteArray.size (strD (sv (Row.tx (R (tN i)) i_1)))) 9000000 ∧ iv (Row.wd (R (tN i)) i_1) = iv (numD (iv (Row.wd (R (tN i)) i_1))) ∧ iv (Row.fo (R (tN i)) i_1) = iv (numD (iv (Row.fo (R (tN i)) i_1))) ∧ iv (Row.ba (R (tN i)) i_1) = iv (numD (iv (Row.ba (R (tN i)) i_1))) ∧ iv (Row.fl (R (tN i)) i_1) = iv (numD (iv (Row.fl (R (tN i)) i_1)))) ∧ Nat.le 1 (Row.n (R (tN i))))
  then bif holds (YX.ok { o := some ⟨1, .tab m (rowsD (fun x => false) Q)⟩, d5 := DV.os 0 0 m, d10 := DV.sl t (rowsD T R) 1 n, d11 := iv (n : Int), d12 := iv (i : Int), r := rowOf (DC.get (.tab (Row.n (R (tN i))) (Row.cell (rowOf (Row.cell (R (tN i))) (Row.n (R (tN i))))))) (Row.n (R (tN i))), i := 0 } ∧ ∃ ids, WkP 2 ids [.fn (Fn.func 23) [] [], .os 0 0 m, .os 1 0 (Row.n (R (tN i))), .sl t (fun a a_1 => DV.sl (T a) (Row.cell (R a)) 5 (Row.n (R a))) 1 n, iv (n : Int), iv (i : Int), iv (↑(Row.n (R (tN i))) : Int), iv 0] [some ⟨1, .tab m fun a a_1 => DV.sl ((fun x => false) a) (Row.cell (Q a)) 5 (Row.n (Q a))⟩, some ⟨5, .tab (Row.n (R (tN i))) (Row.cell (rowOf (Row.cell (R (tN i))) (Row.n (R (tN i)))))⟩] [.fn (Fn.func 23) [] [], .os 0 0 m, .os 1 0 (Row.n (rowOf (DC.get (.tab (Row.n (R (tN i))) (Row.cell (rowOf (Row.cell (R (tN i))) (Row.n (R (tN i))))))) (Row.n (R (tN i))))), .sl t (fun a a_1 => DV.sl (T a) (Row.cell (R a)) 5 (Row.n (R a))) 1 n, iv (n : Int), iv (i : Int), iv (↑(Row.n (rowOf (DC.get (.tab (Row.n (R (tN i))) (Row.cell (rowOf (Row.cell (R (tN i))) (Row.n (R (tN i))))))) (Row.n (R (tN i))))) : Int), iv 0] [some ⟨1, .tab m fun a a_1 => DV.sl ((fun x => false) a) (Row.cell (Q a)) 5 (Row.n (Q a))⟩, some ⟨5, .tab (Row.n (rowOf (DC.get (.tab (Row.n (R (tN i))) (Row.cell (rowOf (Row.cell (R (tN i))) (Row.n (R (tN i))))))) (Row.n (R (tN i))))) (Row.cell (Row.mkd (rowOf (DC.get (.tab (Row.n (R (tN i))) (Row.cell (rowOf (Row.cell (R (tN i))) (Row.n (R (tN i))))))) (Row.n (R (tN i)))) 0))⟩])
  then bif decide (m ≤ DC.n (.tab m (rowsD (fun x => false) Q))) then bif decide ((m + 1) * 24 ≤ 140737488355328) then K .normal 35 [.fn (Fn.func 23) [] [], .os 3 0 (m + 1), .sl t (fun a a_1 => DV.sl (T a) (Row.cell (R a)) 5 (Row.n (R a))) 1 n, iv (n : Int), iv (IntKind.wrap .i64 ((i : Int) + 1))] [.os 3 0 (m + 1)] [none, some ⟨5, .tab (Row.n (rowOf (DC.get (.tab (Row.n (R (tN i))) (Row.cell (rowOf (Row.cell (R (tN i))) (Row.n (R (tN i))))))) (Row.n (R (tN i))))) (Row.cell (Row.mkd (rowOf (DC.get (.tab (Row.n (R (tN i))) (Row.cell (rowOf (Row.cell (R (tN i))) (Row.n (R (tN i))))))) (Row.n (R (tN i)))) (Row.n (rowOf (DC.get (.tab (Row.n (R (tN i))) (Row.cell (rowOf (Row.cell (R (tN i))) (Row.n (R (tN i))))))) (Row.n (R (tN i)))))))⟩, some ⟨1, .lst [[.os 1 0 (Row.n (rowOf (DC.get (.tab (Row.n (R (tN i))) (Row.cell (rowOf (Row.cell (R (tN i))) (Row.n (R (tN i))))))) (Row.n (R (tN i)))))]]⟩, some ⟨1, .app (.pre (.tab m fun a a_1 => DV.sl ((fun x => false) a) (Row.cell (Q a)) 5 (Row.n (Q a))) m) (.lst [[.os 1 0 (Row.n (rowOf (DC.get (.tab (Row.n (R (tN i))) (Row.cell (rowOf (Row.cell (R (tN i))) (Row.n (R (tN i))))))) (Row.n (R (tN i)))))]])⟩]
  else none else none else none else none else none else none else K (.exit 0) 35 [.fn (Fn.func 23) [] [], .os 0 0 m, .sl t (fun a a_1 => DV.sl (T a) (Row.cell (R a)) 5 (Row.n (R a))) 1 n, iv (n : Int), iv (i : Int)] [.os 0 0 m] [some ⟨1, .tab m fun a a_1 => DV.sl ((fun x => false) a) (Row.cell (Q a)) 5 (Row.n (Q a))⟩] := by
 kernel_rfl
/-- A row, masked. -/
def Row.msk (r : Row) : Row := r.mkd r.n
abbrev mskR (R : Nat → Row) : Nat → Row := fun i => (R i).msk
/-- What has been put together after n rows. -/
def outD : Nat → DV
 | 0 => .v (.slice none 0 0)
 | n + 1 => .os 0 0 (n + 1)
def outB (R : Nat → Row) : Nat → Option DBlk
 | 0 => none
 | n + 1 => some ⟨1, .tab (n + 1) (rowsD (fun _ => false) (mskR R))⟩
structure RX where
 t : Bool
 R : Nat → Row
 T : Nat → Bool
 n : Nat
 i : Nat
def rowsPos (R : Nat → Row) (n : Nat) : Prop := n ≤ 9000000 ∧ ∀ i, i < n → (R i).sized ∧ 0 < (R i).n
noncomputable def roI : LInv RX where
 pre x := x.i ≤ x.n ∧ rowsPos x.R x.n
 m := 0
 n := 35
 ps := [1, 5, 10, 11, 12]
 sd x := [fnD, outD x.i, .sl x.t (rowsD x.T x.R) 1 x.n, iv x.n, iv x.i]
 sh x := [outB x.R x.i]
 meas x := x.n - x.i
 e _ := .exit 0
 qs := [5]
 od x := [outD x.n]
 oh x := [outB x.R x.n]
 guess ds _ := match ds with
  | [_, _, .sl t g 1 n, _, _] => some ⟨t, fun i => rowD (g i 0), fun i => slT (g i 0), n, 0⟩
  | _ => none
 cps x k := k (.exit 0) [outD x.n] [outB x.R x.n]
theorem ro_step {t : Bool} {R : Nat → Row} {T : Nat → Bool} {n i : Nat} {b0 b2 : Option DBlk} {c : DC} {z : Int} (hz : z = ((i + 1 : Nat) : Int)) (hn : i + 1 ≤ c.n)
  (hc : ∀ j, j < i → c.get j 0 = rowsD (fun _ => false) (mskR R) j 0) (hl : c.get i 0 = .os 1 0 (R i).n) :
  WkPZ 0 [3] [1] [fnD, .os 3 0 (i + 1), .sl t (rowsD T R) 1 n, iv n, iv z] [b0, some ⟨5, .tab (R i).n (R i).msk.cell⟩, b2, some ⟨1, c⟩]
   [fnD, outD (i + 1), .sl t (rowsD T R) 1 n, iv n, iv ((i + 1 : Nat) : Int)] [outB R (i + 1)] := by
 subst hz
 refine ⟨.cons (Sub.of_clo fnD_clo).z (.cons (show Sub (ren 0 [3]) (.os 0 0 (i + 1)) (.os 3 0 (i + 1)) from .os rfl).z (.cons (Sub.sl _ _ _ _).z (.cons (Sub.v _).z (.cons (Sub.v _).z .nil)))), rfl, ⟨⟨3, _, rfl, rfl, rfl, hn, trivial, fun j f hj hf => ?_⟩, trivial⟩, (by decide : ([some 3] : List (Option Nat)).Nodup), fun j hj => ?_⟩
 ·obtain rfl : f = 0 := by
   have : f < 1 := hf
   omega
  have hj : j < i + 1 := hj
  show SubZ _ _ (rowsD (fun _ => false) (mskR R) j 0) (c.get j 0)
  by_cases h : j < i
  ·rw [hc j h]
   exact (Sub.sl _ _ _ _).z
  ·obtain rfl : j = i := by omega
   rw [hl]
   exact SubZ.fz0 (c := .tab (R j).n (R j).msk.cell) rfl (Nat.le_refl _) fun _ _ => rfl
 ·obtain rfl : j = 1 := by simpa using hj
  refine ⟨Nat.zero_le _, by decide, fun blk hb i f hi hf => ?_⟩
  obtain rfl : (⟨5, .tab (R _).n (R _).msk.cell⟩ : DBlk) = blk := by simpa using hb
  exact Row.clo _ _ _
theorem wk_end {d : DV} {b : Option DBlk} (h1 : Keep 0 d → True) (hd : ∀ ids, ids = [0] → Sub (ren 0 ids) d d) (hb : ∀ x, b = some x → x.c.good ∧ ∀ i f, i < x.c.n → f < x.k → Clo (x.c.get i f)) : WkPZ 0 [0] [] [d] [b] [d] [b] := by
 cases b with
 | none => exact ⟨.cons (hd _ rfl).z .nil, rfl, trivial, by decide, fun j hj => nomatch hj⟩
 | some x =>
  obtain ⟨h2, h3⟩ := hb x rfl
  exact ⟨.cons (hd _ rfl).z .nil, rfl, ⟨⟨0, x, rfl, rfl, rfl, Nat.le_refl _, h2, fun i f hi hf => (Sub.of_clo (h3 i f hi hf)).z⟩, trivial⟩, (by decide : ([some 0] : List (Option Nat)).Nodup), fun j hj => nomatch hj⟩
theorem outD_sub (n : Nat) {m : Nat} {ids : List Nat} (h : ren m ids 0 = some 0) : Sub (ren m ids) (outD n) (outD n) := by
 cases n with
 | zero => exact .v _
 | succ n => exact .os h
theorem ro_ls {st : AE.Stat} (hx : ∀ f, exA f = false → ∀ a σ, st.ext f a σ = none) : LoopSR true Tryz.prog st gl0 (.loop (loopAt Tryz.f22 58)) roI.g := by
 refine roI.okZ (E := envZ [(61, clC)] (lpOf [(256410, miI.g)]) 0) (p := 500) rfl (tblD_env (l := [(61, clC)]) (fun x h => ?_)) (glOk st).1 (lp_in (c0 := .loop (loopAt Tryz.f22 59802)) (by kernel_rfl) (mi_ls hx)) (fun x k h => h) fun x hx2 => ?_
 ·simp only [List.mem_cons, List.not_mem_nil, or_false] at h
  subst h
  exact (clC_ok hx).z
 obtain ⟨t, R, T, n, i⟩ := x
 obtain ⟨hi, hn, hR⟩ : i ≤ n ∧ rowsPos R n := hx2
 have body : ∀ o d, (o = outB R i ∧ d = outD i) → i < n → (Row.sized (R i) ∧ 0 < (R i).n) ∧ KeepB 2 o ∧ Keep 2 d := fun o d h hlt => by
  obtain ⟨rfl, rfl⟩ := h
  refine ⟨hR i hlt, fun b hb => ?_, fun ids => outD_sub i rfl⟩
  cases i with
  | zero => cases hb
  | succ i =>
   obtain rfl : _ = b := Option.some.inj hb
   exact ⟨trivial, fun j f _ _ => .clo (.sl _ _ _ _)⟩
 cases i with
 | zero =>
  refine (ro0_loop t R T n 0 _).trans ?_
  simp only [Int.toNat_natCast, Nat.add_zero]
  refine dS (fun hlt => ?_) fun hge => ?_
  ·have hlt : 0 < n := by omega
   obtain ⟨⟨hs, hp⟩, ho, hd⟩ := body _ _ ⟨rfl, rfl⟩ hlt
   refine dT (by omega) (dT hlt (hT ⟨Row.ok hs, hp⟩ (hT ⟨⟨Nat.zero_le _, hs.1, ho, hd, .clo (.sl _ _ _ _), .clo (.v _), .clo (.v _)⟩, [], wkO (r := (R 0).mkd 0) ho (.cons (.of_clo fnD_clo) (.cons (hd _) (.cons (.os rfl) (.cons (.sl _ _ _ _) (.cons (.v _) (.cons (.v _) (.cons (.v _) (.cons (.v _) .nil)))))))) (Nat.le_refl _) fun j f _ _ => ?_⟩ ?_)))
   ·match f with
    | 0 => rfl
    | 1 => rfl
    | 2 => rfl
    | 3 => rfl
    | _ + 4 => rfl
   ·exact LInv.askZ_of ⟨rfl, ⟨t, R, T, n, 1⟩, ⟨rfl, rfl, rfl, hlt, hn, hR⟩, by simp only [roI]; omega, [3], [1], ro_step (i := 0) (by rw [W_in (by decide) (by decide)]; rfl) (Nat.le_refl _) (fun j hj => absurd hj (Nat.not_lt_zero _)) rfl⟩
  ·obtain rfl : n = 0 := by omega
   exact LInv.askZ_of ⟨rfl, rfl, [0], [], wk_end (fun _ => trivial) (fun _ _ => .v _) fun x hx => nomatch hx⟩
 | succ i =>
  refine (ro1_loop t R T n (i + 1) (i + 1) (mskR R) _).trans ?_
  simp only [Int.toNat_natCast, Nat.add_zero]
  refine dS (fun hlt => ?_) fun hge => ?_
  ·have hlt : i + 1 < n := by omega
   obtain ⟨⟨hs, hp⟩, ho, hd⟩ := body _ _ ⟨rfl, rfl⟩ hlt
   refine dT (by omega) (dT hlt (hT ⟨Row.ok hs, hp⟩ (hT ⟨⟨Nat.zero_le _, hs.1, ho, hd, .clo (.sl _ _ _ _), .clo (.v _), .clo (.v _)⟩, [], wkO (r := (R (i + 1)).mkd 0) ho (.cons (.of_clo fnD_clo) (.cons (hd _) (.cons (.os rfl) (.cons (.sl _ _ _ _) (.cons (.v _) (.cons (.v _) (.cons (.v _) (.cons (.v _) .nil)))))))) (Nat.le_refl _) fun j f _ _ => ?_⟩ (dT (Nat.le_refl _) (dT (by omega) ?_)))))
   ·match f with
    | 0 => rfl
    | 1 => rfl
    | 2 => rfl
    | 3 => rfl
    | _ + 4 => rfl
   ·refine LInv.askZ_of ⟨rfl, ⟨t, R, T, n, i + 2⟩, ⟨rfl, rfl, rfl, hlt, hn, hR⟩, by simp only [roI]; omega, [3], [1], ro_step (i := i + 1) (by rw [W_in (by omega) (by omega)]; omega) (Nat.le_refl _) (fun j hj => ?_) ?_⟩
    ·show (if j < i + 1 then _ else _) = _
     rw [if_pos hj]
     rfl
    ·show (if i + 1 < i + 1 then _ else ([[DV.os 1 0 (R (i + 1)).n]].getD (i + 1 - (i + 1)) []).getD 0 .any) = _
     rw [if_neg (Nat.lt_irrefl _), Nat.sub_self]
     rfl
  ·obtain rfl : n = i + 1 := by omega
   exact LInv.askZ_of ⟨rfl, rfl, [0], [], wk_end (fun _ => trivial) (fun _ h => by subst h; exact .os rfl) fun x hx => by
    obtain rfl : _ = x := Option.some.inj hx
    exact ⟨trivial, fun j f _ _ => .sl _ _ _ _⟩⟩
theorem ros_tree (t : Bool) (R : Nat → Row) (T : Nat → Bool) (n : Nat) (K : DV → DHeap → Option Unit) : bodyD Tryz.prog (envZ [(61, clC)] (lpOf [(58, roI.g)]) 0) Tryz.f22 [.sl t (rowsD T R) 1 n, fnD] [] (fun d σ => K d σ) =
  bif holds ((Nat.le 0 n ∧ Nat.le n 9000000 ∧ ∀ (i : Nat), i < n → (Nat.le (Row.n ((fun i => rowD (.sl (T i) (Row.cell (R i)) 5 (Row.n (R i)))) i)) 9000000 ∧ ∀ (i_1 : Nat), i_1 < Row.n ((fun i => rowD (.sl (T i) (Row.cell (R i)) 5 (Row.n (R i)))) i) → Nat.le (ByteArray.size (Row.tx ((fun i => rowD (.sl (T i) (Row.cell (R i)) 5 (Row.n (R i)))) i) i_1)) 9000000) ∧ Nat.le 1 (Row.n ((fun i => rowD (.sl (T i) (Row.cell (R i)) 5 (Row.n (R i)))) i))) ∧ ∃ ids, WkP 0 ids [.fn (Fn.func 23) [] [], DV.v (Value.slice none 0 0), .sl t (fun a a_1 => DV.sl (T a) (Row.cell (R a)) 5 (Row.n (R a))) 1 n, iv (n : Int), iv 0] [] [.fn (Fn.func 23) [] [], DV.v (Value.slice none 0 0), .sl t (fun a a_1 => DV.sl ((fun i => slT (.sl (T i) (Row.cell (R i)) 5 (Row.n (R i)))) a) (Row.cell ((fun i => rowD (.sl (T i) (Row.cell (R i)) 5 (Row.n (R i)))) a)) 5 (Row.n ((fun i => rowD (.sl (T i) (Row.cell (R i)) 5 (Row.n (R i)))) a))) 1 n, iv (n : Int), iv 0] [none])
  then K (List.getD [DV.any, DV.any, DV.any, DV.any, evalDT (Env.gl (envZ [(61, clC)] (lpOf [(58, LInv.g roI)]) 0)) [DV.any, DV.any, DV.any, DV.any, DV.any, outD n, DV.any, DV.any, DV.any, DV.any, DV.any, DV.any, DV.any, DV.any, DV.any, DV.any, DV.any, DV.any, DV.any, DV.any, DV.any, DV.any, DV.any, DV.any, DV.any, DV.any, DV.any, DV.any, DV.any, DV.any, DV.any, DV.any, DV.any, DV.any, evalDT (Env.gl (envZ [(61, clC)] (lpOf [(58, LInv.g roI)]) 0)) [DV.any, DV.any, DV.any, DV.any, DV.any, outD n, DV.any, DV.any, DV.any, DV.any, DV.any, DV.any, DV.any, DV.any, DV.any, DV.any, DV.any, DV.any, DV.any, DV.any, DV.any, DV.any, DV.any, DV.any, DV.any, DV.any, DV.any, DV.any, DV.any, DV.any, DV.any, DV.any, DV.any, DV.any, DV.any] (Operand.tmp 5)] (Operand.tmp 34), outD n, DV.any, DV.any, DV.any, DV.any, DV.any, DV.any, DV.any, DV.any, DV.any, DV.any, DV.any, DV.any, DV.any, DV.any, DV.any, DV.any, DV.any, DV.any, DV.any, DV.any, DV.any, DV.any, DV.any, DV.any, DV.any, DV.any, DV.any, DV.any, evalDT (Env.gl (envZ [(61, clC)] (lpOf [(58, LInv.g roI)]) 0)) [DV.any, DV.any, DV.any, DV.any, DV.any, outD n, DV.any, DV.any, DV.any, DV.any, DV.any, DV.any, DV.any, DV.any, DV.any, DV.any, DV.any, DV.any, DV.any, DV.any, DV.any, DV.any, DV.any, DV.any, DV.any, DV.any, DV.any, DV.any, DV.any, DV.any, DV.any, DV.any, DV.any, DV.any, DV.any] (Operand.tmp 5)] 4 DV.any) [outB (fun i => rowD (.sl (T i) (Row.cell (R i)) 5 (Row.n (R i)))) n]
  else none := by
 kernel_rfl
/-- Rows without those that have no cells. -/
def rowsAre (G : Nat → Nat → DV) (n : Nat) : Prop := n ≤ 9000000 ∧ ∀ i, i < n → isRow (G i 0) ∧ 0 < slN (G i 0)
noncomputable def roC (Q : (Nat → Nat → DV) → Nat → Prop) (M : Row → Row) : ConF := fun args k => match args with
 | [.sl _ G 1 n, .fn (.func 23) [] []] => bif holds (Q G n) then
   k (fun _ => (.sl false (rowsD (fun _ => false) fun i => M ⟨slN (G i 0), fun j => strD (slG (G i 0) j 0), fun j => numD (slG (G i 0) j 1), fun j => numD (slG (G i 0) j 2), fun j => numD (slG (G i 0) j 3), fun j => numD (slG (G i 0) j 4)⟩) 1 n, [])) else none
 | _ => none
theorem row_low (r : Row) (i f : Nat) : Low (r.cell i f) := by
 match f with
 | 0 => exact .v _
 | 1 => exact .v _
 | 2 => exact .v _
 | 3 => exact .v _
 | _ + 4 => exact .v _
theorem rows_low (R : Nat → Row) (n : Nat) : Low (.sl false (rowsD (fun _ => false) R) 1 n) := .sl fun i f _ _ => .sl fun j g _ _ => row_low _ _ _
theorem out_frz (R : Nat → Row) (n : Nat) : fzq (.sl false (rowsD (fun _ => false) (mskR R)) 1 n) (outD n) [outB R n] = some () := by
 cases n with
 | zero => exact fzq_of ⟨[], fun C μ x _ hx => (by cases hx; exact .slnil _ _ _), fun j hj => nomatch hj⟩
 | succ n =>
  refine fzq_of ⟨[0], SubZ.fz0 (c := .tab (n + 1) (rowsD (fun _ => false) (mskR R))) rfl (Nat.le_refl _) (fun _ _ => rfl), fun j hj blk hb i f _ _ => ?_⟩
  obtain rfl : j = 0 := by simpa using hj
  obtain rfl : (⟨1, .tab (n + 1) (rowsD (fun _ => false) (mskR R))⟩ : DBlk) = blk := by simpa [outB] using hb
  exact .sl _ _ _ _
theorem roC_ok {st : AE.Stat} (hx : ∀ f, exA f = false → ∀ a σ, st.ext f a σ = none) : ConOkZ true Tryz.prog st 22 (roC rowsAre Row.msk) := by
 refine con_frz (E := envZ [(61, clC)] (lpOf [(58, roI.g)]) 0) rfl (glOk st) (tblD_env (l := [(61, clC)]) fun x h => ?_) Tryz.func22 (by kernel_rfl) (by kernel_rfl) (hx 22 rfl) (lp_in (c0 := .loop (loopAt Tryz.f22 58)) (by kernel_rfl) (ro_ls hx)) fun args k hk => ?_
 ·simp only [List.mem_cons, List.not_mem_nil, or_false] at h
  subst h
  exact (clC_ok hx).z
 unfold roC at hk
 split at hk <;> first | (cases hk; done) | skip
 rename_i t G n
 obtain ⟨hb, hk⟩ := bif_none hk
 obtain ⟨hn, hG⟩ := holds_eq.1 hb
 refine ⟨[.sl t (rowsD (fun i => slT (G i 0)) fun i => rowD (G i 0)) 1 n, fnD], _, .cons (rows_cv fun i hi => (hG i hi).1) (.self .nil), rows_low _ n, hk, ?_⟩
 refine (ros_tree t (fun i => rowD (G i 0)) (fun i => slT (G i 0)) n _).trans (hT ⟨⟨Nat.zero_le _, hn, fun i hi => ⟨(hG i hi).1.2.row, (hG i hi).2⟩⟩, [0], .cons (.of_clo fnD_clo) (.cons (.v _) (.cons (.sl _ _ _ _) (.cons (.v _) (.cons (.v _) .nil)))), rfl, trivial, by decide⟩ ?_)
 exact out_frz (fun i => rowD (G i 0)) n
theorem cbC_ok {st : AE.Stat} (hx : ∀ f, exA f = false → ∀ a σ, st.ext f a σ = none) : ConOkZ true Tryz.prog st 24 (cbC tabsAre) := by
 refine con_frz (E := envZ [] noLp 0) rfl (glOk st) (tblD_env (l := []) fun _ h => nomatch h) Tryz.func24 (by kernel_rfl) (by kernel_rfl) (hx 24 rfl) (fun _ _ _ h => nomatch h) fun args k hk => ?_
 unfold cbC at hk
 split at hk <;> first | (cases hk; done) | skip
 rename_i t g n
 obtain ⟨hb, hk⟩ := bif_none hk
 obtain ⟨hn, hp, hg⟩ := holds_eq.1 hb
 refine ⟨[.sl t (tabsD fun i => boolD (g i 0)) 1 n], _, .cons (Cv.sl fun i f hi hf => .of (by obtain rfl : f = 0 := (by omega); exact hg i hi)) .nil, .sl fun _ _ _ _ => .v _, hk, ?_⟩
 refine (cb_tree t (fun i => boolD (g i 0)) n _).trans (dT hp (dT (by omega) (fzq_of ⟨[1], ?_, fun j hj blk hb i f _ _ => ?_⟩)))
 ·rw [Nat.zero_add]
  refine SubZ.fz0 (c := .app (.pre (.lst []) 0) (.tab n (tabsD fun i => boolD (g i 0)))) rfl (by show n ≤ 0 + n; omega) fun i f => ?_
  show (if i < 0 then _ else tabsD _ (i - 0) f) = _
  rw [if_neg (Nat.not_lt_zero _)]; rfl
 ·obtain rfl : j = 1 := by simpa using hj
  obtain rfl : (⟨1, .app (.pre (.lst []) 0) (.tab n (tabsD fun i => boolD (g i 0)))⟩ : DBlk) = blk := Option.some.inj (Option.some.inj hb)
  show Clo (if i < 0 then _ else tabsD _ (i - 0) f)
  rw [if_neg (Nat.not_lt_zero _)]
  exact .v _
end Go.Proofs.YtfdldnomelnbgaaGreatDoor
