/-
 The glyphs of a row, collected: a range over a function.
 Conditions: none beyond those of the contracts.

 The glyphs of a row, collected: the loop over the cells.
 Conditions: none beyond those of the contracts.

 The contracts of AppendSeq and Collect, at the glyphs of a row.
 Conditions: none beyond those of the contracts.
-/
import Derived.Test.YtfdldnomelnbgaaGreatDoorDeNd
import Derived.Test.YtfdldnomelnbgaaGreatDoorJUtf
namespace Go.Proofs.YtfdldnomelnbgaaGreatDoor
open Go Go.AE Go.DE Go.RowKit

/-- The range, its parameter's assignment, its body. -/
noncomputable def rfC : Code := pieceOf Tryz.f78 13
noncomputable def asgC : Code := match rfC with
 | .block _ (.rangeFunc _ _ a _) => a
 | _ => .skip
noncomputable def rbC : Code := match rfC with
 | .block _ (.rangeFunc _ _ _ b) => b
 | _ => .skip
theorem rf_eq : rfC = .block 0 (.rangeFunc (.tmp 6) #[7] asgC rbC) := by kernel_rfl
/-- The piece in which a glyph is yielded. -/
noncomputable def yC : Code := pieceOf Tryz.f79 1639
noncomputable def yOps : Array Oper := match yC with
 | .seq (.region _ ops _) _ => ops
 | _ => #[]
theorem y_eq : yC = .seq (.region 7 yOps false) (.cond (.tmp 33) .ret .skip) := by kernel_rfl
noncomputable def yO (i : Nat) : Oper := yOps.toList.getD i ⟨none, .move (.tmp 0), 0, "", #[], none⟩
theorem y_ops : yOps.toList = [yO 0, yO 1, yO 2, yO 3] := by kernel_rfl
noncomputable def yCall : Go.Call := match (yO 2).op with
 | .call c => c
 | _ => ⟨.builtin .len, #[], #[]⟩
noncomputable def tyG : TypeId := match (yO 1).op with
 | .load t _ => t
 | _ => 0
theorem y0_op : (yO 0).op = .move (.tmp 0) := by kernel_rfl
theorem y0_dst : (yO 0).dst = some 30 := by kernel_rfl
theorem y0_g : (yO 0).guard = none := by kernel_rfl
theorem y1_dst : (yO 1).dst = some 31 := by kernel_rfl
theorem y2_op : (yO 2).op = .call yCall := by kernel_rfl
theorem y2_callee : yCall.callee = .value (.tmp 30) := by kernel_rfl
theorem y2_args : yCall.args = #[.tmp 31] := by kernel_rfl
theorem y2_dst : (yO 2).dst = some 32 := by kernel_rfl
theorem y2_g : (yO 2).guard = none := by kernel_rfl
theorem y2_c : constsOk (yO 2).op = true := by kernel_rfl
theorem y3_dst : (yO 3).dst = some 33 := by kernel_rfl
theorem y3_g : (yO 3).guard = none := by kernel_rfl
theorem y3_ops : (yO 3).op.operands = #[.tmp 32] := by kernel_rfl
theorem y3_sel : isSelect (yO 3).op = false := by kernel_rfl
theorem y3_c : constsOk (yO 3).op = true := by kernel_rfl
theorem y3_peek : peek Tryz.prog (execOp (fun _ => .bool true) (yO 3)) = some (.value (.bool false)) := by kernel_rfl
/-- What the round makes of the glyph, and what comes behind it. -/
noncomputable def yRest (k : KD Unit) (τ : List DV) (σ : DHeap) : Option Unit :=
 execD Tryz.prog (envZ [] noLp 0) asgC 1 ((temps 13 [2] [.po 0 0 0]).set 7 (τ.getD 31 .any)) σ fun e τ1 s1 => match e with
  | .normal => execD Tryz.prog (envZ [] noLp 0) rbC 1 τ1 s1 fun e2 _ s2 => match e2 with
   | .normal => k .normal ((τ.set 32 (bv true)).set 33 (bv false)) s2
   | _ => none
  | _ => none
noncomputable def yD : LoopD Unit := fun τ σ k => match Nat.beq τ.length 35 with
 | true => loadD Tryz.prog σ tyG ((τ.set 30 (τ.getD 0 .any)).getD 5 .any) fun d => yRest k ((τ.set 30 (τ.getD 0 .any)).set 31 d) σ
 | false => none
theorem y1_step (call : CallD Unit) (τ : List DV) (σ : DHeap) (κ : List DV → List DV → DHeap → Option Unit) : stepD Tryz.prog call gl0 yOps (yO 1) τ σ κ = loadD Tryz.prog σ tyG (τ.getD 5 .any) (fun d => κ τ (τ.set 31 d) σ) := by kernel_rfl
theorem step_bare {P : Program} {st : AE.Stat} {call : CallA} {ops : Array Oper} {o : Oper} {d : Tmp} {τ : Array Value} {σ σ' : Heap} {v : Value} (hg : o.guard = none) (hd : o.dst = some d) (h : opA P st call (evalT τ) o σ = some (v, σ')) : stepA P st call ops o τ σ = some (τ.setIfInBounds d v, σ') := by
 unfold stepA guardOk Region.wanted
 simp only [hg, if_true, h, hd, putT]
theorem stepA_size {P : Program} {st : AE.Stat} {call : CallA} {ops : Array Oper} {o : Oper} {τ τ' : Array Value} {σ σ' : Heap} (h : stepA P st call ops o τ σ = some (τ', σ')) : τ'.size = τ.size := by
 have ps : ∀ v, (putT τ o.dst v).size = τ.size := fun v => by
  unfold putT
  split
  ·exact Array.size_setIfInBounds
  ·rfl
 unfold stepA at h
 split at h <;> first | (cases h; done) | skip
 split at h
 ·split at h <;> first | (cases h; done) | skip
  simp only [Option.some.injEq, Prod.mk.injEq] at h
  rw [← h.1, ps]
 ·simp only [Option.some.injEq, Prod.mk.injEq] at h
  rw [← h.1, ps]
theorem getT {τ : Array Value} {t : Nat} {v : Value} (h : τ[t]? = some v) : evalT τ (.tmp t) = v := by
 show τ.getD t undef = v
 rw [Array.getD_eq_getD_getElem?, h]
 rfl
theorem y_ok {st : AE.Stat} {K : KArg} {τ0 : Array Value} (hR : K.R = .loop τ0 #[7] asgC rbC .ready none) (ht : K.t = 0) (hv : K.v = .chan (some K.l)) (h0 : ∀ C μ, μ 0 = some K.x0 → DRL C μ (temps 13 [2] [.po 0 0 0]) τ0.toList) :
  LoopSK K true Tryz.prog st gl0 yC yD := by
 intro τd σd k r hg C μ τ σ h
 unfold yD at hg
 have hlen : Nat.beq τd.length 35 = true := by
  cases hb : Nat.beq τd.length 35 with
  | true => rfl
  | false => rw [hb] at hg; exact nomatch hg
 rw [hlen] at hg
 have hlen := Nat.eq_of_beq_eq_true hlen
 have hsz : τ.size = 35 := by have := h.T.1; rw [hlen] at this; simpa using this.symm
 have hcall : CallS true Tryz.prog st (tblD []) := tblD_call (l := []) fun _ h => nomatch h
 have htm : τ[0]? = some (.chan (some K.l)) := by rw [← hv, ← ht]; exact h.tm
 -- the channel
 have s0 : ∀ n m, stepA Tryz.prog st (runF Tryz.prog st n m) yOps (yO 0) τ σ = some (τ.setIfInBounds 30 (.chan (some K.l)), σ) := fun n m => by
  refine step_bare y0_g y0_dst ?_
  rw [opA_move (by kernel_rfl) (.inl y0_op), getT htm]
 have h1 : RlK K st gl0 C μ (τ.setIfInBounds 30 (.chan (some K.l))) σ (τd.set 30 (τd.getD 0 .any)) σd := by
  refine ⟨⟨h.S, ?_, h.G⟩, h.kp, ?_⟩
  ·have hd : DR C μ (τd.getD 0 .any) (.chan (some K.l)) := by have := h.ev (.tmp 0); rw [getT htm] at this; exact this
   exact h.T.put (some 30) hd
  ·rw [ht, Array.getElem?_setIfInBounds_ne (by decide), ← ht]; exact h.tm
 generalize τd.set 30 (τd.getD 0 .any) = τd1 at hg h1
 -- the glyph
 have hg1 : stepD Tryz.prog (tblD []) gl0 yOps (yO 1) τd1 σd (fun _ τ' σ' => yRest k τ' σ') = some () := by rw [y1_step]; exact hg
 obtain ⟨_, τ2, σ2, C2, μ2, τd2, σd2, _, ⟨N1, hN1⟩, h2, n2, hg2, _⟩ := stepD_some h1.toRl hcall hg1
 have k2 : τ2[30]? = some (.chan (some K.l)) := by
  have := stepA_tmp (t := 30) (by rw [y1_dst]; rfl) (hN1 N1 N1 (Nat.le_refl _) (Nat.le_refl _))
  rw [this, Array.getElem?_setIfInBounds_self_of_lt (by omega)]
 have n2 : (NRel.b true).N C μ σ σd C2 μ2 σ2 σd2 := (NRel.b true).of n2
 have kp2 := h1.kp.nextN n2
 have hg2 : yRest k τd2 σd2 = some () := hg2
 unfold yRest at hg2
 -- the round
 obtain ⟨σ3, C3, μ3, σd3, ⟨N2, hN2⟩, S3, n3, hg3⟩ := yield_run (E0 := envZ [] noLp 0) (K := K) (τ0 := τ0) (q := 7) (pa := 1) (pb := 1) (k := fun s2 => k .normal ((τd2.set 32 (bv true)).set 33 (bv false)) s2)
  rfl (tblD_env (l := []) fun _ h => nomatch h) (glOk st) (fun _ _ _ h => nomatch h) (fun _ _ _ h => nomatch h) hR (by kernel_rfl) (by kernel_rfl) h2.S kp2 (h2.ev (.tmp 31)) (h0 C2 μ2 kp2.x0) hg2
 have n3 : (NRel.b true).N C2 μ2 σ2 σd2 C3 μ3 σ3 σd3 := n3
 have s2 : ∀ n m, N2 ≤ n → N2 ≤ m → stepA Tryz.prog st (runF Tryz.prog st n m) yOps (yO 2) τ2 σ2 = some (τ2.setIfInBounds 32 (.bool true), σ3) := fun n m hn hm => by
  refine step_bare y2_g y2_dst ?_
  rw [opA_none y2_c (peekA_nonflat (x := .tmp 30) (by rw [y2_op]; simp [Op.operands, Go.Call.operands, y2_callee]) (by rw [getT k2]; rfl)), y2_op]
  show callA Tryz.prog st (runF Tryz.prog st n m) (evalT τ2) yCall σ2 = _
  unfold callA
  have e : (Array.map (evalT τ2) #[.tmp 31]).toList = [evalT τ2 (.tmp 31)] := by simp
  simp only [y2_callee, getT k2, y2_args, e]
  exact hN2 n m hn hm
 have hT3 : DRL C3 μ3 (τd2.set 32 (bv true)) (τ2.setIfInBounds 32 (.bool true)).toList := (h2.T.mono n3.hC n3.hμ).put (some 32) (.v (.bool true) rfl)
 have hsz2 : 32 < τ2.size := by
  have := stepA_size (hN1 N1 N1 (Nat.le_refl _) (Nat.le_refl _))
  rw [this, Array.size_setIfInBounds, hsz]; decide
 have k3 : (τ2.setIfInBounds 32 (.bool true))[32]? = some (.bool true) := Array.getElem?_setIfInBounds_self_of_lt hsz2
 have s3 : ∀ n m, stepA Tryz.prog st (runF Tryz.prog st n m) yOps (yO 3) (τ2.setIfInBounds 32 (.bool true)) σ3 = some ((τ2.setIfInBounds 32 (.bool true)).setIfInBounds 33 (.bool false), σ3) := fun n m => by
  refine step_bare y3_g y3_dst ?_
  have hev : ∀ x ∈ (yO 3).op.operands, evalT (τ2.setIfInBounds 32 (.bool true)) x = .bool true := fun x hx => by
   rw [y3_ops] at hx
   obtain rfl : x = .tmp 32 := by simpa using hx
   exact getT k3
  have hp : peekA Tryz.prog (evalT (τ2.setIfInBounds 32 (.bool true))) (yO 3) = some (.bool false) := by
   refine peekA_some (fun x hx => by rw [hev x hx]; rfl) y3_sel ?_ rfl
   rw [execOp_congr (yO 3) (fun cs b hcs => by have := y3_sel; rw [hcs] at this; simp [isSelect] at this) (ρ' := fun _ => .bool true) hev]
   exact y3_peek
  unfold opA
  rw [if_pos y3_c, hp]
 have hT4 : DRL C3 μ3 ((τd2.set 32 (bv true)).set 33 (bv false)) ((τ2.setIfInBounds 32 (.bool true)).setIfInBounds 33 (.bool false)).toList := hT3.put (some 33) (.v (.bool false) rfl)
 have k4 : ((τ2.setIfInBounds 32 (.bool true)).setIfInBounds 33 (.bool false))[33]? = some (.bool false) ∨ evalT ((τ2.setIfInBounds 32 (.bool true)).setIfInBounds 33 (.bool false)) (.tmp 33) = .bool false := by
  left
  refine Array.getElem?_setIfInBounds_self_of_lt ?_
  have := stepA_size (hN1 N1 N1 (Nat.le_refl _) (Nat.le_refl _))
  rw [Array.size_setIfInBounds, this, Array.size_setIfInBounds, hsz]; decide
 have k4 : evalT ((τ2.setIfInBounds 32 (.bool true)).setIfInBounds 33 (.bool false)) (.tmp 33) = .bool false := k4.elim getT id
 refine ⟨.normal, _, σ3, C3, μ3, _, σd3, ⟨max N1 N2, fun n m hn hm => ?_⟩, ⟨S3, hT4, (glOk st).2 _ _ _ _ S3⟩, (NRel.b true).tr n2 n3, hg3⟩
 have a1 : stepA Tryz.prog st (runF Tryz.prog st n m) yOps (yO 1) (τ.setIfInBounds 30 (.chan (some K.l))) σ = some (τ2, σ2) := hN1 n m (by omega) (by omega)
 rw [y_eq]
 simp only [execA, y_ops, runA, s0 n m, a1, s2 n m (by omega) (by omega), s3 n m, k4, Bool.false_eq_true, if_false]
end Go.Proofs.YtfdldnomelnbgaaGreatDoor

namespace Go.Proofs.YtfdldnomelnbgaaGreatDoor
open Go Go.AE Go.DE Go.RowKit

theorem g0_loop (S : Int → Int) (t : Bool) (r : Row) (i : Nat) (K : Ex → Nat → List DV → List DV → DHeap → Option Unit) : execD Tryz.prog (envZ [(80, syC S)] (lpOf [(1639, yD)]) 0) (loopAt Tryz.f79 6) 12 (temps 35 [6, 7, 8] [.sl t r.cell 5 r.n, iv r.n, iv i]) [some ⟨1, .lst [[.v (.slice none 0 0)]]⟩, none] (fun e τ σ => K e τ.length (pick [6, 7, 8] τ) (pick [] τ) σ) =
  bif decide ((i : Int) < (r.n : Int)) then bif decide ((i : Int) < (r.n : Int)) then bif decide (tN i < r.n) then bif decide (tN i < r.n) then bif decide (tN i < r.n) then bif decide (tN i < r.n) then
  bif decide (tN i < r.n) then bif IntKind.wrap .i64 (↑(BitVec.toNat (BitVec.ofInt 64 (r.fl (tN i)) &&& BitVec.ofInt 64 64)) : Int) != 0 then K .normal 35 [.sl t r.cell 5 r.n, iv (r.n : Int), iv (IntKind.wrap .i64 ((i : Int) + 1))] [] [some ⟨1, .upd (.lst [[DV.v (Value.slice none 0 0)]]) 0 0 (.os 6 0 1)⟩, none, some ⟨5, .upd (.upd (.upd (.upd (.upd (.lst [[sv ⟨#[]⟩, iv 0, iv 0, iv 0, iv 0]]) 0 0 (sv (r.tx (tN i)))) 0 1 (iv (r.wd (tN i)))) 0 2 (iv (r.fo (tN i)))) 0 3 (iv (r.ba (tN i)))) 0 4 (iv (r.fl (tN i)))⟩, some ⟨3, .upd (.upd (.upd (.upd (.upd (.upd (.lst [[sv ⟨#[]⟩, bv false, iv 0]]) 0 0 (sv (r.tx (tN i)))) 0 1 (bv (r.wd (tN i) == 2))) 0 2 (iv (S (r.fl (tN i))))) 0 0 (sv ({ data := #[(42 : UInt8)] }))) 0 1 (bv false)) 0 2 (iv 3)⟩, some ⟨3, .upd (.upd (.upd (.lst [[sv ⟨#[]⟩, bv false, iv 0]]) 0 0 (sv ({ data := #[(42 : UInt8)] }))) 0 1 (bv false)) 0 2 (iv 3)⟩, some ⟨3, .lst [[sv ({ data := #[(42 : UInt8)] }), bv false, iv 3]]⟩, some ⟨3, .lst [[sv ({ data := #[(42 : UInt8)] }), bv false, iv 3]]⟩]
  else bif r.wd (tN i) == 0 then K .normal 35 [.sl t r.cell 5 r.n, iv (r.n : Int), iv (IntKind.wrap .i64 ((i : Int) + 1))] [] [some ⟨1, .lst [[DV.v (Value.slice none 0 0)]]⟩, none, some ⟨5, .upd (.upd (.upd (.upd (.upd (.lst [[sv ⟨#[]⟩, iv 0, iv 0, iv 0, iv 0]]) 0 0 (sv (r.tx (tN i)))) 0 1 (iv (r.wd (tN i)))) 0 2 (iv (r.fo (tN i)))) 0 3 (iv (r.ba (tN i)))) 0 4 (iv (r.fl (tN i)))⟩, some ⟨3, .upd (.upd (.upd (.lst [[sv ⟨#[]⟩, bv false, iv 0]]) 0 0 (sv (r.tx (tN i)))) 0 1 (bv (r.wd (tN i) == 2))) 0 2 (iv (S (r.fl (tN i))))⟩]
  else K .normal 35 [.sl t r.cell 5 r.n, iv (r.n : Int), iv (IntKind.wrap .i64 ((i : Int) + 1))] [] [some ⟨1, .upd (.lst [[DV.v (Value.slice none 0 0)]]) 0 0 (.os 6 0 1)⟩, none, some ⟨5, .upd (.upd (.upd (.upd (.upd (.lst [[sv ⟨#[]⟩, iv 0, iv 0, iv 0, iv 0]]) 0 0 (sv (r.tx (tN i)))) 0 1 (iv (r.wd (tN i)))) 0 2 (iv (r.fo (tN i)))) 0 3 (iv (r.ba (tN i)))) 0 4 (iv (r.fl (tN i)))⟩, some ⟨3, .upd (.upd (.upd (.lst [[sv ⟨#[]⟩, bv false, iv 0]]) 0 0 (sv (r.tx (tN i)))) 0 1 (bv (r.wd (tN i) == 2))) 0 2 (iv (S (r.fl (tN i))))⟩, some ⟨3, .upd (.upd (.upd (.lst [[sv ⟨#[]⟩, bv false, iv 0]]) 0 0 (sv (r.tx (tN i)))) 0 1 (bv (r.wd (tN i) == 2))) 0 2 (iv (S (r.fl (tN i))))⟩, some ⟨3, .lst [[sv (r.tx (tN i)), bv (r.wd (tN i) == 2), iv (S (r.fl (tN i)))]]⟩, some ⟨3, .lst [[sv (r.tx (tN i)), bv (r.wd (tN i) == 2), iv (S (r.fl (tN i)))]]⟩]
  else none else none else none else none else none else none else K (.exit 0) 35 [.sl t r.cell 5 r.n, iv (r.n : Int), iv (i : Int)] [] [some ⟨1, .lst [[DV.v (Value.slice none 0 0)]]⟩, none] := by
 kernel_rfl
theorem g1_loop (S : Int → Int) (t : Bool) (r : Row) (i n : Nat) (q : Gl) (K : Ex → Nat → List DV → List DV → DHeap → Option Unit) : execD Tryz.prog (envZ [(80, syC S)] (lpOf [(1639, yD)]) 0) (loopAt Tryz.f79 6) 12 (temps 35 [6, 7, 8] [.sl t r.cell 5 r.n, iv r.n, iv i]) [some ⟨1, .lst [[.os 1 0 n]]⟩, some ⟨3, .tab n q.cell⟩] (fun e τ σ => K e τ.length (pick [6, 7, 8] τ) (pick [] τ) σ) =
  bif decide ((i : Int) < (r.n : Int)) then bif decide ((i : Int) < (r.n : Int)) then bif decide (tN i < r.n) then bif decide (tN i < r.n) then bif decide (tN i < r.n) then bif decide (tN i < r.n) then
  bif decide (tN i < r.n) then bif IntKind.wrap .i64 (↑(BitVec.toNat (BitVec.ofInt 64 (r.fl (tN i)) &&& BitVec.ofInt 64 64)) : Int) != 0 then bif decide (n ≤ DC.n (.tab n q.cell)) then bif decide ((n + 1) * 32 ≤ 140737488355328)
  then K .normal 35 [.sl t r.cell 5 r.n, iv (r.n : Int), iv (IntKind.wrap .i64 ((i : Int) + 1))] [] [some ⟨1, .upd (.lst [[.os 1 0 n]]) 0 0 (.os 6 0 (n + 1))⟩, none, some ⟨5, .upd (.upd (.upd (.upd (.upd (.lst [[sv ⟨#[]⟩, iv 0, iv 0, iv 0, iv 0]]) 0 0 (sv (r.tx (tN i)))) 0 1 (iv (r.wd (tN i)))) 0 2 (iv (r.fo (tN i)))) 0 3 (iv (r.ba (tN i)))) 0 4 (iv (r.fl (tN i)))⟩, some ⟨3, .upd (.upd (.upd (.upd (.upd (.upd (.lst [[sv ⟨#[]⟩, bv false, iv 0]]) 0 0 (sv (r.tx (tN i)))) 0 1 (bv (r.wd (tN i) == 2))) 0 2 (iv (S (r.fl (tN i))))) 0 0 (sv ({ data := #[(42 : UInt8)] }))) 0 1 (bv false)) 0 2 (iv 3)⟩, some ⟨3, .upd (.upd (.upd (.lst [[sv ⟨#[]⟩, bv false, iv 0]]) 0 0 (sv ({ data := #[(42 : UInt8)] }))) 0 1 (bv false)) 0 2 (iv 3)⟩, some ⟨3, .lst [[sv ({ data := #[(42 : UInt8)] }), bv false, iv 3]]⟩, some ⟨3, .app (.pre (.tab n q.cell) n) (.lst [[sv ({ data := #[(42 : UInt8)] }), bv false, iv 3]])⟩]
  else none else none else bif r.wd (tN i) == 0 then K .normal 35 [.sl t r.cell 5 r.n, iv (r.n : Int), iv (IntKind.wrap .i64 ((i : Int) + 1))] [] [some ⟨1, .lst [[.os 1 0 n]]⟩, some ⟨3, .tab n q.cell⟩, some ⟨5, .upd (.upd (.upd (.upd (.upd (.lst [[sv ⟨#[]⟩, iv 0, iv 0, iv 0, iv 0]]) 0 0 (sv (r.tx (tN i)))) 0 1 (iv (r.wd (tN i)))) 0 2 (iv (r.fo (tN i)))) 0 3 (iv (r.ba (tN i)))) 0 4 (iv (r.fl (tN i)))⟩, some ⟨3, .upd (.upd (.upd (.lst [[sv ⟨#[]⟩, bv false, iv 0]]) 0 0 (sv (r.tx (tN i)))) 0 1 (bv (r.wd (tN i) == 2))) 0 2 (iv (S (r.fl (tN i))))⟩]
  else bif decide (n ≤ DC.n (.tab n q.cell)) then bif decide ((n + 1) * 32 ≤ 140737488355328) then K .normal 35 [.sl t r.cell 5 r.n, iv (r.n : Int), iv (IntKind.wrap .i64 ((i : Int) + 1))] [] [some ⟨1, .upd (.lst [[.os 1 0 n]]) 0 0 (.os 6 0 (n + 1))⟩, none, some ⟨5, .upd (.upd (.upd (.upd (.upd (.lst [[sv ⟨#[]⟩, iv 0, iv 0, iv 0, iv 0]]) 0 0 (sv (r.tx (tN i)))) 0 1 (iv (r.wd (tN i)))) 0 2 (iv (r.fo (tN i)))) 0 3 (iv (r.ba (tN i)))) 0 4 (iv (r.fl (tN i)))⟩, some ⟨3, .upd (.upd (.upd (.lst [[sv ⟨#[]⟩, bv false, iv 0]]) 0 0 (sv (r.tx (tN i)))) 0 1 (bv (r.wd (tN i) == 2))) 0 2 (iv (S (r.fl (tN i))))⟩, some ⟨3, .upd (.upd (.upd (.lst [[sv ⟨#[]⟩, bv false, iv 0]]) 0 0 (sv (r.tx (tN i)))) 0 1 (bv (r.wd (tN i) == 2))) 0 2 (iv (S (r.fl (tN i))))⟩, some ⟨3, .lst [[sv (r.tx (tN i)), bv (r.wd (tN i) == 2), iv (S (r.fl (tN i)))]]⟩, some ⟨3, .app (.pre (.tab n q.cell) n) (.lst [[sv (r.tx (tN i)), bv (r.wd (tN i) == 2), iv (S (r.fl (tN i)))]])⟩]
  else none else none else none else none else none else none else none else none else K (.exit 0) 35 [.sl t r.cell 5 r.n, iv (r.n : Int), iv (i : Int)] [] [some ⟨1, .lst [[.os 1 0 n]]⟩, some ⟨3, .tab n q.cell⟩] := by
 kernel_rfl
/-- The glyphs of the first cells. -/
def glP (r : Row) : Nat → List (ByteArray × Bool × Int)
 | 0 => []
 | i + 1 => glP r i ++ gl1 r i
theorem glP_gls (r : Row) : ∀ (m i : Nat), glP r i ++ gls r m i = glP r (i + m)
 | 0, i => by rw [gls, List.append_nil]; rfl
 | m + 1, i => by rw [gls, ← List.append_assoc, show glP r i ++ gl1 r i = glP r (i + 1) from rfl, glP_gls r m (i + 1), show i + 1 + m = i + (m + 1) by omega]
theorem glP_all (r : Row) : glP r r.n = gls r r.n 0 := by
 have := glP_gls r r.n 0
 rw [Nat.zero_add] at this
 rw [← this]
 rfl
theorem glP_len (r : Row) : ∀ i, (glP r i).length ≤ i
 | 0 => Nat.le_refl _
 | i + 1 => by
  have := glP_len r i
  have := gl1_len r i
  rw [glP, List.length_append]
  omega
/-- What has been collected: the variable, and the block behind it. -/
def celG : List (ByteArray × Bool × Int) → DV
 | [] => .v (.slice none 0 0)
 | x :: l => .os 1 0 (x :: l).length
def celB (L : List (ByteArray × Bool × Int)) : DBlk := ⟨1, .lst [[celG L]]⟩
def blkG : List (ByteArray × Bool × Int) → Option DBlk
 | [] => none
 | x :: l => some ⟨3, .tab (x :: l).length (Gl.ofL (x :: l)).cell⟩
theorem col_wk {L : List (ByteArray × Bool × Int)} {ds : List DV} {σ : DHeap} {j : Nat} {c0 c : DC} (hds : SubL (ren 1 [j]) ds ds) (h0 : σ[0]? = some (some ⟨1, c0⟩)) (hn0 : 1 ≤ c0.n) (hc0 : c0.get 0 0 = .os j 0 L.length) (hj : σ[j]? = some (some ⟨3, c⟩)) (hj1 : 1 ≤ j)
  (hL : 0 < L.length) (hn : L.length ≤ c.n) (hc : ∀ a f, a < L.length → f < 3 → c.get a f = (Gl.ofL L).cell a f) : WkPZ 1 [j] [] ds σ ds [some (celB L), blkG L] := by
 cases L with
 | nil => cases hL
 | cons x l =>
  refine ⟨hds.z, rfl, ⟨⟨0, ⟨1, c0⟩, rfl, h0, rfl, hn0, trivial, fun i f hi hf => ?_⟩, ⟨j, ⟨3, c⟩, rfl, hj, rfl, hn, trivial, fun i f hi hf => ?_⟩, trivial⟩, ?_, fun j h => nomatch h⟩
  ·obtain rfl : i = 0 := by
    have : i < 1 := hi
    omega
   obtain rfl : f = 0 := by
    have : f < 1 := hf
    omega
   show SubZ _ _ (.os 1 0 (x :: l).length) (c0.get 0 0)
   rw [hc0]
   exact (show Sub (ren 1 [j]) (.os 1 0 (x :: l).length) (.os j 0 (x :: l).length) from .os rfl).z
  ·show SubZ _ _ ((Gl.ofL (x :: l)).cell i f) (c.get i f)
   rw [hc i f hi hf]
   exact (Sub.of_clo (Gl.clo _ _ _)).z
  ·show ([some 0, some j] : List (Option Nat)).Nodup
   simp
   omega
theorem col_wk0 {ds : List DV} {σ : DHeap} {c0 : DC} (hds : SubL (ren 1 [1]) ds ds) (h0 : σ[0]? = some (some ⟨1, c0⟩)) (hn0 : 1 ≤ c0.n) (hc0 : c0.get 0 0 = .v (.slice none 0 0)) : WkPZ 1 [1] [] ds σ ds [some (celB []), blkG []] := by
 refine ⟨hds.z, rfl, ⟨⟨0, ⟨1, c0⟩, rfl, h0, rfl, hn0, trivial, fun i f hi hf => ?_⟩, trivial⟩, by decide, fun j h => nomatch h⟩
 obtain rfl : i = 0 := by
  have : i < 1 := hi
  omega
 obtain rfl : f = 0 := by
  have : f < 1 := hf
  omega
 show SubZ _ _ (.v (.slice none 0 0)) (c0.get 0 0)
 rw [hc0]
 exact (Sub.v _).z
theorem app_cell {L : List (ByteArray × Bool × Int)} {x : ByteArray × Bool × Int} {a f : Nat} (ha : a < (L ++ [x]).length) (hf : f < 3) :
  (DC.app (.pre (.tab L.length (Gl.ofL L).cell) L.length) (.lst [[sv x.1, bv x.2.1, iv x.2.2]])).get a f = (Gl.ofL (L ++ [x])).cell a f := by
 show (if a < L.length then (Gl.ofL L).cell a f else (DC.lst [[sv x.1, bv x.2.1, iv x.2.2]]).get (a - L.length) f) = _
 rw [List.length_append] at ha
 have ha : a < L.length + 1 := ha
 by_cases h : a < L.length
 ·rw [if_pos h]
  have e : (L ++ [x]).getD a (⟨#[]⟩, false, 0) = L.getD a (⟨#[]⟩, false, 0) := by rw [List.getD_eq_getElem?_getD, List.getD_eq_getElem?_getD, List.getElem?_append_left h]
  match f with
  | 0 => show sv _ = sv _; unfold Gl.ofL; simp only [e]
  | 1 => show bv _ = bv _; unfold Gl.ofL; simp only [e]
  | _ + 2 => show iv _ = iv _; unfold Gl.ofL; simp only [e]
 ·rw [if_neg h]
  obtain rfl : a = L.length := by omega
  have e : (L ++ [x]).getD L.length (⟨#[]⟩, false, 0) = x := by rw [List.getD_eq_getElem?_getD, List.getElem?_append_right (Nat.le_refl _), Nat.sub_self]; rfl
  rw [Nat.sub_self]
  match f, hf with
  | 0, _ => show sv x.1 = sv _; unfold Gl.ofL; simp only [e]
  | 1, _ => show bv x.2.1 = bv _; unfold Gl.ofL; simp only [e]
  | 2, _ => show iv x.2.2 = iv _; unfold Gl.ofL; simp only [e]
structure ZC where
 t : Bool
 r : Row
 i : Nat
noncomputable def coI : LInv ZC where
 pre x := x.i ≤ x.r.n ∧ x.r.n ≤ 9000000
 m := 1
 n := 35
 ps := [6, 7, 8]
 sd x := [.sl x.t x.r.cell 5 x.r.n, iv x.r.n, iv x.i]
 sh x := [some (celB (glP x.r x.i)), blkG (glP x.r x.i)]
 meas x := x.r.n - x.i
 e _ := .exit 0
 qs := []
 od _ := []
 oh x := [some (celB (glP x.r x.r.n)), blkG (glP x.r x.r.n)]
 guess ds _ := match ds with
  | [.sl t g 5 n, _, _] => some ⟨t, rowOf g n, 0⟩
  | _ => none
 cps x k := k (.exit 0) [] [some (celB (glP x.r x.r.n)), blkG (glP x.r x.r.n)]
theorem lp_inK {K : KArg} {z : Bool} {st : AE.Stat} {gl : DE.Gl} {l : List (Nat × Code)} {q : Nat} {g0 : LoopD Unit} {c0 : Code} (h : (l.filter fun x => Nat.beq x.1 q).map (·.2) = [c0]) (H : LoopSK K z Tryz.prog st gl c0 g0) :
  ∀ x ∈ l, ∀ g, lpOf [(q, g0)] x.1 = some g → LoopSK K z Tryz.prog st gl x.2 g := fun x hx g hg => by
 unfold lpOf at hg
 split at hg
 ·rename_i e
  have hm : x.2 ∈ (l.filter fun x => Nat.beq x.1 q).map (·.2) := List.mem_map.2 ⟨x, List.mem_filter.2 ⟨hx, e⟩, rfl⟩
  rw [h, List.mem_singleton] at hm
  rw [hm, ← Option.some.inj hg]
  exact H
 ·cases hg
theorem co_ls {st : AE.Stat} (hx : ∀ f, exA f = false → ∀ a σ, st.ext f a σ = none) {K : KArg} {τ0 : Array Value} (hR : K.R = .loop τ0 #[7] asgC rbC .ready none) (ht : K.t = 0) (hv : K.v = .chan (some K.l)) (h0 : ∀ C μ, μ 0 = some K.x0 → DRL C μ (temps 13 [2] [.po 0 0 0]) τ0.toList) :
  LoopSK K true Tryz.prog st gl0 (.loop (loopAt Tryz.f79 6)) coI.g := by
 refine coI.okZK (E := envZ [(80, syC styF)] (lpOf [(1639, yD)]) 0) (p := 12) rfl (Nat.le_refl _) (tblD_env (l := [(80, syC styF)]) fun x h => ?_) (glOk st).1 (by rw [ht]; kernel_rfl) (lp_inK (c0 := yC) (by kernel_rfl) (y_ok hR ht hv h0)) (fun x k h => h) fun x hx2 => ?_
 ·simp only [List.mem_cons, List.not_mem_nil, or_false] at h
  subst h
  exact (syC_ok hx).z
 obtain ⟨t, r, i⟩ := x
 obtain ⟨hi, hn⟩ : i ≤ r.n ∧ r.n ≤ 9000000 := hx2
 have hlen := glP_len r i
 have ds1 : ∀ (j : Nat) (z : Int), SubL (ren 1 [j]) [.sl t r.cell 5 r.n, iv r.n, iv z] [.sl t r.cell 5 r.n, iv r.n, iv z] := fun j z => .cons (.sl _ _ _ _) (.cons (.v _) (.cons (.v _) .nil))
 -- the next state
 have next : ∀ {σ : DHeap} {L : List (ByteArray × Bool × Int)} {j : Nat}, i < r.n → glP r (i + 1) = L → WkPZ 1 [j] [] [.sl t r.cell 5 r.n, iv r.n, iv ((i + 1 : Nat) : Int)] σ [.sl t r.cell 5 r.n, iv r.n, iv ((i + 1 : Nat) : Int)] [some (celB L), blkG L] →
   coI.askZ ⟨t, r, i⟩ .normal 35 [.sl t r.cell 5 r.n, iv r.n, iv ((i + 1 : Nat) : Int)] [] σ = some () := fun {σ L j} hlt hL hw => by
  subst hL
  exact LInv.askZ_of ⟨rfl, ⟨t, r, i + 1⟩, ⟨rfl, rfl, rfl, hlt, hn⟩, by simp only [coI]; omega, [j], [], hw⟩
 have stop : ∀ {σ : DHeap} {j : Nat}, i = r.n → WkPZ 1 [j] [] [] σ [] [some (celB (glP r i)), blkG (glP r i)] → coI.askZ ⟨t, r, i⟩ (.exit 0) 35 [.sl t r.cell 5 r.n, iv r.n, iv (i : Int)] [] σ = some () := fun {σ j} h hw => by
  refine LInv.askZ_of ⟨rfl, rfl, [j], [], ?_⟩
  show WkPZ 1 [j] [] [] σ [] [some (celB (glP r r.n)), blkG (glP r r.n)]
  rw [← h]
  exact hw
 have hg : glP r (i + 1) = glP r i ++ gl1 r i := rfl
 show execD Tryz.prog (envZ [(80, syC styF)] (lpOf [(1639, yD)]) 0) (loopAt Tryz.f79 6) 12 (temps 35 [6, 7, 8] [.sl t r.cell 5 r.n, iv r.n, iv i]) [some (celB (glP r i)), blkG (glP r i)] _ = some ()
 cases hL : glP r i with
 | nil =>
  rw [hL] at hg stop
  refine (g0_loop styF t r i _).trans ?_
  simp only [Int.toNat_natCast, Nat.add_zero]
  refine dS (fun hlt => ?_) fun hge => ?_
  ·have hlt : i < r.n := by omega
   have hW : IntKind.i64.wrap ((i : Int) + 1) = ((i + 1 : Nat) : Int) := by rw [W_in (by omega) (by omega)]; omega
   rw [hW]
   refine dT (by omega) (dT hlt (dT hlt (dT hlt (dT hlt (dT hlt (cS (fun h1 => ?_) fun h1 => cS (fun h2 => ?_) fun h2 => ?_))))))
   ·have h1 : (!shown (r.fl i)) = true := h1
    have e : gl1 r i = [(starT, false, 3)] := by unfold gl1; rw [h1]; rfl
    refine next (j := 6) hlt (hg.trans (by rw [e]; rfl)) (col_wk (L := [(starT, false, 3)]) (ds1 _ _) rfl (Nat.le_refl _) rfl rfl (by decide) (by decide) (Nat.le_refl _) fun a f ha hf => ?_)
    exact app_cell (L := []) ha hf
   ·have h1 : (!shown (r.fl i)) = false := h1
    have e : gl1 r i = [] := by unfold gl1; rw [h1, h2]; rfl
    exact next (j := 1) hlt (hg.trans (by rw [e]; rfl)) (col_wk0 (ds1 _ _) rfl (Nat.le_refl _) rfl)
   ·have h1 : (!shown (r.fl i)) = false := h1
    have e : gl1 r i = [(r.tx i, r.wd i == 2, styF (r.fl i))] := by unfold gl1; rw [h1, h2]; rfl
    refine next (j := 6) hlt (hg.trans (by rw [e]; rfl)) (col_wk (L := [(r.tx i, r.wd i == 2, styF (r.fl i))]) (ds1 _ _) rfl (Nat.le_refl _) rfl rfl (by decide) (Nat.succ_pos _) (Nat.le_refl _) fun a f ha hf => ?_)
    exact app_cell (L := []) ha hf
  ·exact stop (j := 1) (by omega) (col_wk0 .nil rfl (Nat.le_refl _) rfl)
 | cons y l =>
  rw [hL] at hg stop hlen
  have hp : 0 < (y :: l).length := Nat.succ_pos _
  refine (g1_loop styF t r i (y :: l).length (Gl.ofL (y :: l)) _).trans ?_
  generalize y :: l = L at hg stop hlen hp ⊢
  simp only [Int.toNat_natCast, Nat.add_zero]
  refine dS (fun hlt => ?_) fun hge => ?_
  ·have hlt : i < r.n := by omega
   have hW : IntKind.i64.wrap ((i : Int) + 1) = ((i + 1 : Nat) : Int) := by rw [W_in (by omega) (by omega)]; omega
   rw [hW]
   have hn0 : L.length ≤ DC.n (DC.tab L.length (Gl.ofL L).cell) := Nat.le_refl _
   have add : ∀ {σ : DHeap} {x : ByteArray × Bool × Int} {c0 : DC}, gl1 r i = [x] → σ[0]? = some (some ⟨1, c0⟩) → 1 ≤ c0.n → c0.get 0 0 = .os 6 0 (L.length + 1) → σ[6]? = some (some ⟨3, .app (.pre (.tab L.length (Gl.ofL L).cell) L.length) (.lst [[sv x.1, bv x.2.1, iv x.2.2]])⟩) →
     coI.askZ ⟨t, r, i⟩ .normal 35 [.sl t r.cell 5 r.n, iv r.n, iv ((i + 1 : Nat) : Int)] [] σ = some () := fun {σ x c0} e q0 q1 q2 q3 => by
    refine next (j := 6) hlt (hg.trans (by rw [e])) (col_wk (L := L ++ [x]) (ds1 _ _) q0 q1 (by rw [List.length_append]; exact q2) q3 (by decide) (by rw [List.length_append]; omega) (by rw [List.length_append]; exact Nat.le_refl _) fun a f ha hf => app_cell ha hf)
   refine dT (by omega) (dT hlt (dT hlt (dT hlt (dT hlt (dT hlt (cS (fun h1 => ?_) fun h1 => cS (fun h2 => ?_) fun h2 => ?_))))))
   ·have h1 : (!shown (r.fl i)) = true := h1
    have e : gl1 r i = [(starT, false, 3)] := by unfold gl1; rw [h1]; rfl
    exact dT hn0 (dT (by omega) (add e rfl (Nat.le_refl _) rfl rfl))
   ·have h1 : (!shown (r.fl i)) = false := h1
    have e : gl1 r i = [] := by unfold gl1; rw [h1, h2]; rfl
    exact next (j := 1) hlt (hg.trans (by rw [e, List.append_nil])) (col_wk (ds1 _ _) rfl (Nat.le_refl _) rfl rfl (by decide) hp (Nat.le_refl _) fun a f ha hf => rfl)
   ·have h1 : (!shown (r.fl i)) = false := h1
    have e : gl1 r i = [(r.tx i, r.wd i == 2, styF (r.fl i))] := by unfold gl1; rw [h1, h2]; rfl
    exact dT hn0 (dT (by omega) (add e rfl (Nat.le_refl _) rfl rfl))
  ·exact stop (j := 1) (by omega) (col_wk .nil rfl (Nat.le_refl _) rfl rfl (by decide) hp (Nat.le_refl _) fun a f ha hf => rfl)
theorem gb_tree (S : Int → Int) (t tt : Bool) (r : Row) (K : DV → DHeap → Option Unit) : bodyD Tryz.prog (envZ [(80, syC S)] (lpOf [(6, coI.g)]) 0) Tryz.f79 [.any, .pf tt (fun _ _ => .sl t r.cell 5 r.n) 1 1 0 0] [some ⟨1, .lst [[.v (.slice none 0 0)]]⟩] (fun d σ => K d σ) =
  bif holds ((Nat.le 0 (Row.n (rowOf r.cell r.n)) ∧ Nat.le (Row.n (rowOf r.cell r.n)) 9000000) ∧ ∃ ids, WkP 1 ids [.sl t r.cell 5 r.n, iv (r.n : Int), iv 0] [some ⟨1, .lst [[DV.v (Value.slice none 0 0)]]⟩] [.sl t (Row.cell (rowOf r.cell r.n)) 5 (Row.n (rowOf r.cell r.n)), iv (↑(Row.n (rowOf r.cell r.n)) : Int), iv 0] [some ⟨1, .lst [[DV.v (Value.slice none 0 0)]]⟩, none])
  then K (.tup []) [some ⟨1, .lst [[celG (glP (rowOf r.cell r.n) (Row.n (rowOf r.cell r.n)))]]⟩, blkG (glP (rowOf r.cell r.n) (Row.n (rowOf r.cell r.n)))] else none := by
 kernel_rfl
end Go.Proofs.YtfdldnomelnbgaaGreatDoor

namespace Go.Proofs.YtfdldnomelnbgaaGreatDoor
open Go Go.AE Go.DE Go.RowKit

theorem St.more {st : AE.Stat} {C : Cf} {μ : Mu} {σ : Heap} {σd : DHeap} (h : St st C μ σ σd) (ex : List (Option Blk)) : St st C μ (σ ++ ex) σd :=

 ⟨fun t b s o v q => cellA_append (h.frz t b s o v q), fun id blk hb => (let ⟨b, L, l, q1, q2, q3, q4, q5, q6, q7⟩ := h.own id blk hb; ⟨b, L, l, q1, q2, by rw [List.getElem?_append_left (List.getElem?_eq_some_iff.1 q3).1]; exact q3, q4, q5, q6, q7⟩), h.sep, h.inj,
  fun id x hm => (by have := h.dom id x hm; rw [List.length_append]; omega), fun t b o v q => (by have := h.low t b o v q; rw [List.length_append]; omega), h.sta⟩
theorem NxW.less {C C2 : Cf} {μ μ2 : Mu} {σ σ2 : Heap} {σd σd2 : DHeap} {x y : Option Blk} (n : NxW C μ (σ ++ [x]) σd C2 μ2 σ2 σd2) : NxW C μ σ σd C2 μ2 (σ2.set σ.length y) σd2 := by
 have hl := n.len
 rw [List.length_append] at hl
 have hl : σ.length + 1 ≤ σ2.length := hl
 refine ⟨n.hC, n.hμ, by rw [List.length_set]; omega, n.lend, fun b hb hn => ?_, fun b hl hb => n.img b hl (by rw [List.length_append]; omega), fun t b s o v q => (n.old t b s o v q).imp id fun e => ⟨e.1, e.2.1, e.2.2.imp (fun q => by rw [List.length_append] at q; omega) id⟩⟩
 rw [List.getElem?_set_ne (by omega), n.fr b (by rw [List.length_append]; omega) hn, List.getElem?_append_left hb]
/-- A function that yields the glyphs of a row: a datum that holds the row's own pointer. -/
def seqD (tt : Bool) (G : Nat → Nat → DV) : DV := .fn (.func 79) [] [.pf tt G 1 1 0 0]
theorem Cv.seq {tt : Bool} {G G' : Nat → Nat → DV} (h : Cv (G 0 0) (G' 0 0)) : Cv (seqD tt G) (seqD tt G') := fun C μ v hv => by
 cases hv with
 | fn _ _ _ x y h1 h2 h3 h4 =>
  refine .fn _ _ _ x y h1 h2 (fun i d x' hd hx => by simp at hd) fun i d x' hd hx => ?_
  cases i with
  | succ i => simp at hd
  | zero =>
   obtain rfl : .pf tt G' 1 1 0 0 = d := by simpa using hd
   have q := h4 0 _ x' (Eq.refl _) hx
   obtain ⟨a, w, rfl, hk, hn, p1, p2⟩ := q.pf_inv
   refine .pf _ _ _ _ _ _ a _ w hk hn (Eq.refl _) p1 fun i f hi hf => ?_
   obtain rfl : i = 0 := by omega
   obtain rfl : f = 0 := by omega
   exact h _ _ _ (p2 0 0 (by decide) (by decide))
noncomputable def rfD : LoopD Unit := fun τ σ k => match Nat.beq τ.length 13, τ.getD 2 .any, τ.getD 6 .any, σ with
 | true, .po 0 0 0, .fn (.func 79) [] [.pf _ G 1 1 0 0], [some ⟨1, .lst [[.v (.slice none 0 0)]]⟩] => (match G 0 0 with
  | .sl _ g 5 n => bif holds (cellsOk g n) then k .normal τ [some (celB (glP (rowOf g n) n)), blkG (glP (rowOf g n) n)] else none
  | _ => none)
 | _, _, _, _ => none
theorem rfD_some {τ : List DV} {σ : DHeap} {k : KD Unit} (h : rfD τ σ k = some ()) : ∃ tt G t g n, τ.length = 13 ∧ τ.getD 2 .any = .po 0 0 0 ∧ τ.getD 6 .any = seqD tt G ∧ σ = [some ⟨1, .lst [[.v (.slice none 0 0)]]⟩] ∧ G 0 0 = .sl t g 5 n ∧ cellsOk g n ∧
  k .normal τ [some (celB (glP (rowOf g n) n)), blkG (glP (rowOf g n) n)] = some () := by
 unfold rfD at h
 split at h
 ·rename_i tt G h1 h2 h3
  split at h
  ·rename_i t g n h4
   obtain ⟨h5, h⟩ := bif_none h
   exact ⟨tt, G, t, g, n, Nat.eq_of_beq_eq_true h1, h2, h3, rfl, h4, holds_eq.1 h5, h⟩
  ·exact nomatch h
 ·exact nomatch h
theorem rf_ls {st : AE.Stat} (hx : ∀ f, exA f = false → ∀ a σ, st.ext f a σ = none) : LoopSR true Tryz.prog st gl0 rfC rfD := by
 intro τd σd k r hg C μ τ σ h
 obtain ⟨tt, G, t, g, n, l1, l2, l3, rfl, l4, ok, hk⟩ := rfD_some (show rfD τd σd k = some () from hg)
 have hsz : τ.size = 13 := by have := h.T.1; rw [l1] at this; simpa using this.symm
 -- the pointer to the variable
 have e2 := h.ev (.tmp 2)
 have e2 : DR C μ (τd.getD 2 .any) (evalT τ (.tmp 2)) := e2
 rw [l2] at e2
 obtain ⟨b0, k0, L0, hp, m0, hk0⟩ := e2.po_inv
 have hp : evalT τ (.tmp 2) = .pointer (some ⟨b0, 0 * k0 + 0, none⟩) := hp
 -- the function
 have e6 := h.ev (.tmp 6)
 have e6 : DR C μ (τd.getD 6 .any) (evalT τ (.tmp 6)) := e6
 rw [l3] at e6
 have e6 := Cv.seq (tt := tt) (G' := fun _ _ => .sl t (rowOf g n).cell 5 n) (by rw [l4]; exact ok.cv t) _ _ _ e6
 obtain ⟨u, hu, hu2⟩ : ∃ u, evalT τ (.tmp 6) = .func (.func 79) #[] #[u] ∧ DR C μ (.pf tt (fun _ _ => .sl t (rowOf g n).cell 5 n) 1 1 0 0) u := by
  generalize evalT τ (.tmp 6) = w at e6
  cases e6 with
  | fn _ _ _ x y h1 h2 h3 h4 =>
   obtain rfl : x = #[] := Array.eq_empty_of_size_eq_zero (by simpa using h1.symm)
   have hy : y.size = 1 := by simpa using h2.symm
   obtain ⟨u, rfl⟩ : ∃ u, y = #[u] := ⟨y[0], by
    apply Array.ext
    ·simp [hy]
    ·intro i q1 q2
     have : i = 0 := by omega
     subst this
     rfl⟩
   exact ⟨u, rfl, h4 0 _ _ rfl rfl⟩
 -- the record
 let K : KArg := ⟨σ.length, .loop τ #[7] asgC rbC .ready none, (b0, k0, L0), 0, .chan (some σ.length)⟩
 have S1 : St st C μ (σ ++ [some (.loop τ #[7] asgC rbC .ready none)]) [some ⟨1, .lst [[.v (.slice none 0 0)]]⟩] := St.more h.S _
 have kp : Kp K μ (σ ++ [some (.loop τ #[7] asgC rbC .ready none)]) [some ⟨1, .lst [[.v (.slice none 0 0)]]⟩] := by
  refine ⟨by show (σ ++ [_])[σ.length]? = _; rw [List.getElem?_append_right (Nat.le_refl _), Nat.sub_self]; rfl, ?_, m0, Nat.le_refl _⟩
  rintro ⟨id, blk, x, q1, q2⟩
  have := (h.S.dom id _ q2).2
  exact absurd this (Nat.lt_irrefl _)
 have h0 : ∀ C' μ', μ' 0 = some K.x0 → DRL C' μ' (temps 13 [2] [.po 0 0 0]) τ.toList := fun C' μ' hm => by
  refine ⟨by rw [temps_length]; simpa using hsz.symm, fun i d x hd hx' => ?_⟩
  by_cases e : i = 2
  ·subst e
   obtain rfl : DV.po 0 0 0 = d := by simpa [temps] using hd
   have hx2 : evalT τ (.tmp 2) = x := getT (by simpa using hx')
   rw [hp] at hx2
   rw [← hx2]
   exact .po 0 0 0 b0 k0 L0 _ hm hk0 rfl
  ·have : d = .any := by
    have hd : ((List.replicate 13 DV.any).set 2 (.po 0 0 0))[i]? = some d := hd
    rw [List.getElem?_set_ne (by omega), List.getElem?_replicate] at hd
    split at hd
    ·exact (Option.some.inj hd).symm
    ·cases hd
   rw [this]
   exact .any _
 -- the function's run
 have hb : bodyD Tryz.prog (envZ [(80, syC styF)] (lpOf [(6, coI.g)]) 0) Tryz.f79 [.any, .pf tt (fun _ _ => .sl t (rowOf g n).cell 5 (rowOf g n).n) 1 1 0 0] [some ⟨1, .lst [[.v (.slice none 0 0)]]⟩] (fun _ s2 => bif holds (s2 = [some (celB (glP (rowOf g n) n)), blkG (glP (rowOf g n) n)]) then some () else none) = some () := by
  refine (gb_tree styF t tt (rowOf g n) _).trans (hT ⟨⟨Nat.zero_le _, ok.1⟩, [5], ?_⟩ (hT rfl rfl))
  exact .of (im := [some 0]) (.cons (.sl _ _ _ _) (.cons (.v _) (.cons (.v _) .nil))) rfl ⟨⟨0, _, rfl, rfl, subC_lst fun x hx d hd => by
   obtain rfl : x = _ := by simpa using hx
   obtain rfl : d = _ := by simpa using hd
   exact .v _⟩, trivial⟩ rfl (by decide)
 obtain ⟨v, σ2, C2, μ2, d, σd2, ⟨N, hN⟩, S2, n2, _, hx2⟩ := bodyD_someK (K := K) (vs := [.chan (some σ.length), u]) (tblD_env (l := [(80, syC styF)]) fun x h => by
   simp only [List.mem_cons, List.not_mem_nil, or_false] at h
   subst h
   exact (syC_ok hx).z) (lp_inK (c0 := .loop (loopAt Tryz.f79 6)) (by kernel_rfl) (co_ls hx (K := K) (τ0 := τ) rfl rfl rfl h0)) (by kernel_rfl) S1 kp rfl (.cons (.any _) (.cons hu2 (.nil _ _))) ((glOk st).2 _ _ _ _ S1) hb
 have hs : σd2 = [some (celB (glP (rowOf g n) n)), blkG (glP (rowOf g n) n)] := holds_eq.1 (bif_none hx2).1
 subst hs
 have n2 : (NRel.b true).N C μ (σ ++ [some (.loop τ #[7] asgC rbC .ready none)]) [some ⟨1, .lst [[.v (.slice none 0 0)]]⟩] C2 μ2 σ2 _ := n2
 have kp2 := kp.nextN n2
 have at2 : σ2[σ.length]? = some (some (.loop τ #[7] asgC rbC .ready none)) := kp2.at_
 have n3 : NxW C μ σ [some ⟨1, .lst [[.v (.slice none 0 0)]]⟩] C2 μ2 (σ2.set σ.length (some (.loop τ #[7] asgC rbC .exhausted none))) _ := NxW.less n2
 refine ⟨.normal, τ, σ2.set σ.length (some (.loop τ #[7] asgC rbC .exhausted none)), C2, μ2, τd, _, ⟨N + 1, fun n' m hn hm => ?_⟩, ⟨S2.mark (B := .loop τ #[7] asgC rbC .exhausted none) (fun _ e => by cases e) at2, h.T.mono n3.hC n3.hμ, (glOk st).2 _ _ _ _ (S2.mark (B := .loop τ #[7] asgC rbC .exhausted none) (fun _ e => by cases e) at2)⟩, n3, hk⟩
 have hrun : runF Tryz.prog st n' m 79 [.chan (some σ.length), u] (σ ++ [some (.loop τ #[7] asgC rbC .ready none)]) = some (v, σ2) := by
  obtain ⟨m, rfl⟩ : ∃ m', m = m' + 1 := ⟨m - 1, by omega⟩
  simp only [runF, Tryz.func79, hx 79 rfl]
  exact hN n' m (by omega) (by omega)
 have hend : endLoopA σ2 σ.length = some (none, σ2.set σ.length (some (.loop τ #[7] asgC rbC .exhausted none))) := by
  unfold endLoopA
  rw [at2]
  rfl
 have hent : entersA Tryz.prog 79 = true := by kernel_rfl
 have hev : evalG τ (.tmp 6) = .func (.func 79) #[] #[u] := hu
 rw [rf_eq]
 have hargs : ((#[] ++ #[Value.chan (some σ.length)]) ++ #[u] : Array Value).toList = [.chan (some σ.length), u] := rfl
 simp only [execA, hev, hent, if_true, hargs, hrun, hend, jumpA]
theorem as_tree (tt t : Bool) (r : Row) (K : DV → DHeap → Option Unit) : bodyD Tryz.prog (envZ [] (lpOf [(13, rfD)]) 0) Tryz.f78 [.v (.slice none 0 0), seqD tt fun _ _ => .sl t r.cell 5 r.n] [] (fun d σ => K d σ) =
  bif holds (Nat.le r.n 9000000 ∧ ∀ (i : Nat), i < r.n → sv (r.tx i) = sv (strD (sv (r.tx i))) ∧ Nat.le (ByteArray.size (strD (sv (r.tx i)))) 9000000 ∧ iv (r.wd i) = iv (numD (iv (r.wd i))) ∧ iv (r.fo i) = iv (numD (iv (r.fo i))) ∧ iv (r.ba i) = iv (numD (iv (r.ba i))) ∧ iv (r.fl i) = iv (numD (iv (r.fl i))))
  then K (List.getD [DV.v (Value.slice none 0 0), .fn (Fn.func 79) [] [.pf tt (fun x x_1 => DV.sl t r.cell 5 r.n) 1 1 0 0], .po 0 0 0, .tup [], evalDT (Env.gl (envZ [] (lpOf [(13, rfD)]) 0)) [DV.v (Value.slice none 0 0), .fn (Fn.func 79) [] [.pf tt (fun x x_1 => DV.sl t r.cell 5 r.n) 1 1 0 0], .po 0 0 0, .tup [], DV.v (Value.slice none 0 0), .tup [], .fn (Fn.func 79) [] [.pf tt (fun x x_1 => DV.sl t r.cell 5 r.n) 1 1 0 0], .tup [], .tup [], .tup [], .tup [], .tup [], celG (glP (rowOf r.cell r.n) r.n)] (Operand.tmp 12), .tup [], .fn (Fn.func 79) [] [.pf tt (fun x x_1 => DV.sl t r.cell 5 r.n) 1 1 0 0], .tup [], .tup [], .tup [], .tup [], .tup [], celG (glP (rowOf r.cell r.n) r.n)] 4 DV.any) [some ⟨1, .lst [[celG (glP (rowOf r.cell r.n) r.n)]]⟩, blkG (glP (rowOf r.cell r.n) r.n)]
  else none := by
 kernel_rfl
/-- What the functions need of a row whose glyphs are asked for. -/
def seqOk (G : Nat → Nat → DV) : Prop := ∃ t g n, G 0 0 = .sl t g 5 n ∧ cellsOk g n ∧ 0 < (gls (rowOf g n) n 0).length
def seqR (G : Nat → Nat → DV) : Row := rowOf (slG (G 0 0)) (slN (G 0 0))
noncomputable def asC (Q : (Nat → Nat → DV) → Prop) (F : Row → Gl) : ConF := fun args k => match args with
 | [.v (.slice none 0 0), .fn (.func 79) [] [.pf _ G 1 1 0 0]] => bif holds (Q G) then k (fun _ => (.sl false (F (seqR G)).cell 3 (F (seqR G)).n, [])) else none
 | _ => none
theorem seqOk.cv {tt : Bool} {G : Nat → Nat → DV} (h : seqOk G) : ∃ t, Cv (seqD tt G) (seqD tt fun _ _ => .sl t (seqR G).cell 5 (seqR G).n) ∧ cellsOk (slG (G 0 0)) (slN (G 0 0)) ∧ 0 < (glR (seqR G)).n := by
 obtain ⟨t, g, n, e, ok, hp⟩ := h
 refine ⟨t, Cv.seq ?_, ?_, ?_⟩
 ·unfold seqR; rw [e]; exact ok.cv t
 ·rw [e]; exact ok
 ·unfold seqR glR; rw [e]; exact hp
theorem asC_ok {st : AE.Stat} (hx : ∀ f, exA f = false → ∀ a σ, st.ext f a σ = none) : ConOkZ true Tryz.prog st 78 (asC seqOk glR) := by
 refine con_frz (E := envZ [] (lpOf [(13, rfD)]) 0) rfl (glOk st) (tblD_env (l := []) fun _ h => nomatch h) Tryz.func78 (by kernel_rfl) (by kernel_rfl) (hx 78 rfl) (lp_in (c0 := rfC) (by kernel_rfl) (rf_ls hx)) fun args k hk => ?_
 unfold asC at hk
 split at hk <;> first | (cases hk; done) | skip
 rename_i tt G
 obtain ⟨hb, hk⟩ := bif_none hk
 obtain ⟨t, hcv, ok, hp⟩ := (holds_eq.1 hb).cv (tt := tt)
 refine ⟨[.v (.slice none 0 0), seqD tt fun _ _ => .sl t (seqR G).cell 5 (seqR G).n], _, .self (.cons hcv .nil), .sl fun i f _ _ => gl_low _ _ _, hk, ?_⟩
 have hr : cellsOk (seqR G).cell (seqR G).n := Row.ok ok.row
 clear ok hcv hb hk
 generalize seqR G = r at hp hr ⊢
 refine (as_tree tt t r _).trans (hT hr ?_)
 show fzq (.sl false (Gl.ofL (gls r r.n 0)).cell 3 (gls r r.n 0).length) (celG (glP r r.n)) [some (celB (glP r r.n)), blkG (glP r r.n)] = some ()
 rw [glP_all]
 have hp : 0 < (gls r r.n 0).length := hp
 generalize gls r r.n 0 = L at hp ⊢
 cases L with
 | nil => cases hp
 | cons x l =>
  refine fzq_of ⟨[1], SubZ.fz0 (c := .tab (x :: l).length (Gl.ofL (x :: l)).cell) rfl (Nat.le_refl _) (fun _ _ => rfl), fun j hj blk hb i f _ _ => ?_⟩
  obtain rfl : j = 1 := by simpa using hj
  obtain rfl : (⟨3, .tab (x :: l).length (Gl.ofL (x :: l)).cell⟩ : DBlk) = blk := by simpa [blkG] using hb
  exact Gl.clo _ _ _
theorem ct_tree (Q : (Nat → Nat → DV) → Prop) (F : Row → Gl) (tt t : Bool) (r : Row) (k : DV → Option Unit) : bodyD Tryz.prog (envZ [(78, asC Q F)] noLp 0) Tryz.f43 [seqD tt fun _ _ => .sl t r.cell 5 r.n] [] (fun d _ => k d) =
  bif holds (Q fun x x_1 => DV.sl t r.cell 5 r.n) then k (.sl false (Gl.cell (F (seqR fun x x_1 => DV.sl t r.cell 5 r.n))) 3 (Gl.n (F (seqR fun x x_1 => DV.sl t r.cell 5 r.n)))) else none := by
 kernel_rfl
noncomputable def ctC (Q : (Nat → Nat → DV) → Prop) (F : Row → Gl) : ConF := fun args k => match args with
 | [.fn (.func 79) [] [.pf _ G 1 1 0 0]] => bif holds (Q G) then k (fun _ => (.sl false (F (seqR G)).cell 3 (F (seqR G)).n, [])) else none
 | _ => none
theorem ctC_ok {st : AE.Stat} (hx : ∀ f, exA f = false → ∀ a σ, st.ext f a σ = none) : ConOkZ true Tryz.prog st 43 (ctC seqOk glR) := by
 refine con_flatZ (mg := []) (l := [(78, asC seqOk glR)]) (lp := noLp) (n := 0) (glOk st) (fun x h => ?_) Tryz.func43 (by kernel_rfl) (by kernel_rfl) (hx 43 rfl) (fun _ _ _ h => nomatch h) fun args k hk => ?_
 ·simp only [List.mem_cons, List.not_mem_nil, or_false] at h
  subst h
  exact asC_ok hx
 unfold ctC at hk
 split at hk <;> first | (cases hk; done) | skip
 rename_i tt G
 obtain ⟨hb, hk⟩ := bif_none hk
 obtain ⟨t, hcv, ok, hp⟩ := (holds_eq.1 hb).cv (tt := tt)
 refine ⟨[seqD tt fun _ _ => .sl t (seqR G).cell 5 (seqR G).n], _, .cons hcv .nil, ⟨.sl _ _ _ _, .sl fun i f _ _ => gl_low _ _ _⟩, hk, ?_⟩
 have hr : cellsOk (seqR G).cell (seqR G).n := Row.ok ok.row
 clear ok hcv hb hk
 generalize seqR G = r at hp hr ⊢
 exact (ct_tree seqOk glR tt t r _).trans (hT ⟨t, r.cell, r.n, rfl, hr, hp⟩ (isD_of rfl))
end Go.Proofs.YtfdldnomelnbgaaGreatDoor
