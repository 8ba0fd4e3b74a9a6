/-
 The contracts of a copy of a terminal and of Replies,at what the program takes for proper.
 Conditions: none beyond those of the contracts.
-/
import Derived.Test.YtigmkgampfbflaaGreatDoorJSq
import Derived.Test.YtigmkgampfbflaaGreatDoorAeMpg
import Derived.Test.YtigmkgampfbflaaGreatDoorProg
import Derived.Test.YtigmkgampfbflaaGreatDoorJDec
import Derived.Test.YtigmkgampfbflaaGreatDoorDeLst
import Derived.Test.YtigmkgampfbflaaGreatDoorJFt
import Derived.Test.YtigmkgampfbflaaGreatDoorJOwn
import Derived.Test.YtigmkgampfbflaaGreatDoorJUtf
namespace Go.Proofs.YtigmkgampfbflaaGreatDoor
open Go Go.AE Go.DE Go.RowKit
def tmPP (l:List DV):Prop:=l=(tmOf l).cells/\(tmOf l).ok/\PrpP (tmOf l)/\(tmOf l).low
theorem PrpP.pos {x:Tm}(p:PrpP x) (ok:x.ok):x.pos:=by
 obtain ⟨a1,a2,a3,a4,a5,a6⟩:=p.g;obtain ⟨b1,b2,b3,b4,b5,b6⟩:=p.o;obtain ⟨o1,o2,o3,o4,o5,o6⟩:=ok;have tn:=p.tn
 refine ⟨⟨o1.1,fun i hi=>⟨o1.2 i hi,?_⟩⟩,⟨o2.1,fun i hi=>⟨o2.2 i hi,?_⟩⟩,⟨o3.1,fun i hi=>⟨o3.2 i hi,?_⟩⟩,o4,by omega⟩
 ·have:=(rowF_pos (a6 i hi).2).1; omega
 ·have:=(rowF_pos (b6 i hi).2).1; omega
 ·have:=(rowF_pos (p.b i hi)).1; omega
theorem owP_ok {st:AE.Stat}(hx:Hx st):ConOkZ true Tryz.prog st 35 (owC tmPP fun x=>(Tm.own x).cells):=by
 refine con_flatZ (mg:=[]) (l:=[(76,roC rowsGo),(77,cbC tabsAre)]) (lp:=noLp) (n:=0) (glOk st) (fun x h=>?_) Tryz.func35 (by kernel_rfl) (by kernel_rfl) (hx 35 rfl) (fun _ _ _ h=>nomatch h) fun args k hk=>?_
 ·simp only [List.mem_cons,List.not_mem_nil,or_false] at h
  rcases h with rfl | rfl
  ·exact roC_ok hx
  ·exact cbC_ok hx
 unfold owC at hk
 split at hk<;>first | (cases hk; done) | skip
 rename_i l;obtain ⟨hb,hk⟩:=bif_none hk;obtain ⟨h1,h2,h3,h4,h5,h6⟩:=holds_eq.1 hb;obtain ⟨q1,q2,q3,q4,q5⟩:=h3.pos h2
 exact ⟨[.agg (tmOf l).cells],_,.cons (Cv.of (by rw [<- h1])) .nil,⟨Tm.own_clo _,.agg (Tm.low_cells (fun _ _=>rfl) (fun _ _=>rfl) fun _ _=>rfl)⟩,hk,(ow_tree rowsGo tabsAre (tmOf l) _).trans (hT (go_of q1 h4) (hT (go_of q2 h5) (hT (go_of q3 h6) (hT ⟨⟨q4,fun _ _=>rfl⟩,q5⟩ (isD_of rfl)))))⟩
theorem rplP_ok {st:AE.Stat}(hx:Hx st):ConOkZ true Tryz.prog st 22 (rplC tmPP Tm.noR):=by
 refine con_flatZ (mg:=[]) (l:=[(35,owC tmPP fun x=>(Tm.own x).cells)]) (lp:=noLp) (n:=0) (glOk st) (fun x h=>?_) Tryz.func22 (by kernel_rfl) (by kernel_rfl) (hx 22 rfl) (fun _ _ _ h=>nomatch h) fun args k hk=>?_
 ·simp only [List.mem_cons,List.not_mem_nil,or_false] at h;subst h;exact owP_ok hx
 unfold rplC at hk
 split at hk<;>first | (cases hk; done) | skip
 rename_i l;obtain ⟨hb,hk⟩:=bif_none hk;have q:=holds_eq.1 hb
 have q2:tmPP (tmOf l).cells:=by rw [<- q.1]; exact q
 exact ⟨[.agg (tmOf l).cells],_,.cons (Cv.of (by rw [<- q.1])) .nil,tup_agg (Tm.noR (tmOf l)).clo (Tm.low_cells (fun _ _=>rfl) (fun _ _=>rfl) fun _ _=>rfl),hk,(rpl_tree tmPP (tmOf l) _).trans (hT q2 (isD_of rfl))⟩
end Go.Proofs.YtigmkgampfbflaaGreatDoor
namespace Go.Proofs.YtigmkgampfbflaaGreatDoor
open Go Go.AE Go.RowKit
def preOf:Code->List (Nat×Array Oper)
 | .seq (.region i o false) r=>(i,o) :: preOf r
 | _=>[]
def lastOf:Code->Array Oper
 | .seq (.region _ _ false) r=>lastOf r
 | .seq (.region _ o true) _=>o
 | _=>#[]
def effL:List (Option Blk):=[
 (none),
 (some (.cells [(.pointer (some ⟨0,0,none⟩))])),
 (some (.cells [(.func (.func 195) #[] #[(.pointer (some ⟨1,0,none⟩))])])),
 (some (.cells [(.func (.func 198) #[] #[(.pointer (some ⟨1,0,none⟩))])])),
 (some (.cells [(.func (.func 199) #[] #[(.pointer (some ⟨1,0,none⟩))])])),
 (some (.cells [(.func (.func 200) #[] #[(.pointer (some ⟨1,0,none⟩))])])),
 (some (.cells [(.func (.func 202) #[] #[(.pointer (some ⟨1,0,none⟩))])])),
 (some (.cells [(.func (.func 196) #[(.pointer (some ⟨0,0,none⟩))] #[])])),
 (some (.cells [(.func (.func 195) #[] #[(.pointer (some ⟨1,0,none⟩))])])),
 (some (.cells [(.func (.func 195) #[] #[(.pointer (some ⟨1,0,none⟩))])])),
 (some (.cells [(.func (.func 133) #[(.pointer (some ⟨0,0,none⟩))] #[])])),
 (some (.cells [(.func (.func 133) #[(.pointer (some ⟨0,0,none⟩))] #[])])),
 (some (.cells [(.func (.func 204) #[] #[(.pointer (some ⟨1,0,none⟩))])])),
 (some (.cells [(.func (.func 205) #[] #[(.pointer (some ⟨2,0,none⟩)),(.pointer (some ⟨1,0,none⟩))])])),
 (some (.cells [(.func (.func 206) #[] #[(.pointer (some ⟨1,0,none⟩))])])),
 (some (.cells [(.func (.func 207) #[] #[(.pointer (some ⟨1,0,none⟩))])])),
 (some (.cells [(.func (.func 208) #[] #[(.pointer (some ⟨1,0,none⟩))])])),
 (some (.cells [(.func (.func 210) #[] #[(.pointer (some ⟨1,0,none⟩))])])),
 (some (.cells [(.func (.func 212) #[(.pointer (some ⟨0,0,none⟩))] #[])])),
 (some (.cells [(.func (.func 213) #[(.pointer (some ⟨0,0,none⟩))] #[])])),
 (some (.cells [(.func (.func 214) #[] #[(.pointer (some ⟨4,0,none⟩))])])),
 (some (.cells [(.func (.func 199) #[] #[(.pointer (some ⟨1,0,none⟩))])])),
 (some (.cells [(.func (.func 215) #[] #[(.pointer (some ⟨1,0,none⟩))])])),
 (some (.cells [(.func (.func 216) #[] #[(.pointer (some ⟨1,0,none⟩))])])),
 (some (.cells [(.func (.func 217) #[] #[(.pointer (some ⟨1,0,none⟩))])])),
 (some (.cells [(.func (.func 219) #[(.pointer (some ⟨0,0,none⟩))] #[])])),
 (some (.cells [(.func (.func 220) #[(.pointer (some ⟨0,0,none⟩))] #[])])),
 (some (.pmap .u8 [((.int .u8 (.ofNat 64)),(.func (.func 191) #[] #[(.pointer (some ⟨5,0,none⟩))])),((.int .u8 (.ofNat 80)),(.func (.func 191) #[] #[(.pointer (some ⟨6,0,none⟩))])),((.int .u8 (.ofNat 65)),(.func (.func 191) #[] #[(.pointer (some ⟨7,0,none⟩))])),((.int .u8 (.ofNat 66)),(.func (.func 191) #[] #[(.pointer (some ⟨8,0,none⟩))])),((.int .u8 (.ofNat 101)),(.func (.func 191) #[] #[(.pointer (some ⟨9,0,none⟩))])),((.int .u8 (.ofNat 67)),(.func (.func 191) #[] #[(.pointer (some ⟨10,0,none⟩))])),((.int .u8 (.ofNat 97)),(.func (.func 191) #[] #[(.pointer (some ⟨11,0,none⟩))])),((.int .u8 (.ofNat 68)),(.func (.func 191) #[] #[(.pointer (some ⟨12,0,none⟩))])),((.int .u8 (.ofNat 69)),(.func (.func 191) #[] #[(.pointer (some ⟨13,0,none⟩))])),((.int .u8 (.ofNat 70)),(.func (.func 191) #[] #[(.pointer (some ⟨14,0,none⟩))])),((.int .u8 (.ofNat 71)),(.func (.func 191) #[] #[(.pointer (some ⟨3,0,none⟩))])),((.int .u8 (.ofNat 96)),(.func (.func 191) #[] #[(.pointer (some ⟨3,0,none⟩))])),((.int .u8 (.ofNat 72)),(.func (.func 197) #[] #[(.pointer (some ⟨1,0,none⟩))])),((.int .u8 (.ofNat 102)),(.func (.func 197) #[] #[(.pointer (some ⟨1,0,none⟩))])),((.int .u8 (.ofNat 100)),(.func (.func 191) #[] #[(.pointer (some ⟨15,0,none⟩))])),((.int .u8 (.ofNat 73)),(.func (.func 191) #[] #[(.pointer (some ⟨16,0,none⟩))])),((.int .u8 (.ofNat 90)),(.func (.func 191) #[] #[(.pointer (some ⟨17,0,none⟩))])),((.int .u8 (.ofNat 74)),(.func (.func 194) #[] #[(.pointer (some ⟨18,0,none⟩))])),((.int .u8 (.ofNat 75)),(.func (.func 194) #[] #[(.pointer (some ⟨19,0,none⟩))])),((.int .u8 (.ofNat 76)),(.func (.func 191) #[] #[(.pointer (some ⟨20,0,none⟩))])),((.int .u8 (.ofNat 77)),(.func (.func 191) #[] #[(.pointer (some ⟨21,0,none⟩))])),((.int .u8 (.ofNat 83)),(.func (.func 191) #[] #[(.pointer (some ⟨22,0,none⟩))])),((.int .u8 (.ofNat 84)),(.func (.func 191) #[] #[(.pointer (some ⟨23,0,none⟩))])),((.int .u8 (.ofNat 88)),(.func (.func 191) #[] #[(.pointer (some ⟨24,0,none⟩))])),((.int .u8 (.ofNat 103)),(.func (.func 194) #[] #[(.pointer (some ⟨25,0,none⟩))])),((.int .u8 (.ofNat 110)),(.func (.func 194) #[] #[(.pointer (some ⟨26,0,none⟩))])),((.int .u8 (.ofNat 114)),(.func (.func 221) #[(.pointer (some ⟨0,0,none⟩))] #[])),((.int .u8 (.ofNat 115)),(.func (.func 222) #[] #[(.pointer (some ⟨1,0,none⟩))])),((.int .u8 (.ofNat 117)),(.func (.func 223) #[] #[(.pointer (some ⟨1,0,none⟩))]))]))]
noncomputable def effD:Mpr:={ f:=145,fn:=Tryz.f145,pre:=(match Tryz.f145.body with | some c=>preOf c | none=>[]),id:=7,ops:=(match Tryz.f145.body with | some c=>lastOf c | none=>#[]),q:=.u8,p:=0,iM:=0,tM:=15,sp:=[15,97],t:=2,L1:=effL }
def stE:AE.Stat:=⟨fun _ _=>none,fun _ _ _=>none⟩
theorem effRun:effD.run Tryz.prog stE (runF Tryz.prog stE 10 2)=true:=by kernel_rfl
theorem goodE (w0:World):GoodSt w0 stE:=fun b i v h=>by cases h
theorem callE (w0:World):CallOk Tryz.prog w0 stE.ext:=fun f args σ v σ' h=>by cases h
theorem eff_ok (w0:World):FnOk Tryz.prog w0 145 fun args σ=>RL.app σ (effD.ans args (hp σ) σ.length) :=
 Mpr.ok (D:=effD) effRun Tryz.func145 (by kernel_rfl) rfl (runF_sound (goodE w0) (callE w0) (by kernel_rfl) 2) (goodE w0) (by kernel_rfl)
end Go.Proofs.YtigmkgampfbflaaGreatDoor
namespace Go.Proofs.YtigmkgampfbflaaGreatDoor
open Go Go.AE Go.DE Go.RowKit
def effG (ba N:Nat):Emb:=growE (ptrE ba) 1 effL.length N
def effN (ba N:Nat):List (Option Blk):=(effL.drop 1).map fun b=>(rnOB (effG ba N) b).getD none
theorem eff_puts (ba N:Nat):putsO (effG ba N) [] (effL.drop 1)=some ((effN ba N).map E1.new):=by kernel_rfl
theorem eff_map (ba N:Nat):rnV (effG ba N) 6 (.map (some (effL.length-1)))=some (.map (some (N+26))):=by kernel_rfl
theorem eff_ans {ba N:Nat}{H:HF}(h:∃ b,H ba=some b) (hlt:ba<N):effD.ans [.pointer (some ⟨ba,0,none⟩)] H N=some (.map (some (N+26)),(effN ba N).map E1.new):=by
 obtain ⟨b,hb⟩:=h;unfold Mpr.ans;simp only [hb];rw [if_pos hlt];have e1:rnV (growE (ptrE ba) 1 effD.L1.length N) 6 (.map (some (effD.L1.length-1)))=some (.map (some (N+26))):=eff_map ba N;have e2:putsO (growE (ptrE ba) 1 effD.L1.length N) [] (effD.L1.drop 1)=some ((effN ba N).map E1.new):=eff_puts ba N;rw [e1,e2]
theorem app_new:∀ (l:List (Option Blk)) (σ:Heap),(l.map E1.new).foldl E1.app σ=σ++l
 | [],σ=>by simp
 | b :: l,σ=>by
  show (l.map E1.new).foldl E1.app (σ++[b])=_;rw [app_new l];simp
theorem eff_box (ba N:Nat):(effN ba N)[0]?=some (some (.cells [.pointer (some ⟨ba,0,none⟩)])):=by kernel_rfl
theorem eff_rep (ba N:Nat):(effN ba N)[25]?=some (some (.cells [.func (.func 220) #[.pointer (some ⟨ba,0,none⟩)] #[]])):=by kernel_rfl
theorem eff_to (ba N:Nat):pmapB Tryz.prog 187 (.int .u8 72) ((effN ba N)[26]?).join=some (.func (.func 197) #[] #[.pointer (some ⟨N,0,none⟩)]):=by kernel_rfl
theorem eff_n (ba N:Nat):pmapB Tryz.prog 187 (.int .u8 110) ((effN ba N)[26]?).join=some (.func (.func 194) #[] #[.pointer (some ⟨N+25,0,none⟩)]):=by kernel_rfl
def regOps:Code->Array Oper
 | .seq (.region _ o _) _=>o
 | _=>#[]
noncomputable def efO:Array Oper:=regOps (pieceOf Tryz.f85 3839)
theorem efO_ops:efO.toList.map (fun o=>(o.dst,o.op,o.guard))=[(some 18,.move (.tmp 0),none),(some 19,.call { callee:=.value (.func 145),args:=#[.tmp 18],argTypes:=#[71] },none),(some 20,.fieldAddr 80 (.tmp 3) 2,none),(some 21,.load 5 (.tmp 20),none),
  (some 22,.lookup 187 (.tmp 19) (.tmp 21) true,none),(some 17,.move (.tmp 22),none),(some 23,.extract (.tmp 17) 0,none),(some 24,.extract (.tmp 17) 1,none),(some 7,.assign (.tmp 23),none),(some 8,.assign (.tmp 24),none)]:=by kernel_rfl
theorem efO_static:staticP Tryz.prog efO=true:=by kernel_rfl
theorem list10 {α β:Type}{f:α->β}:∀ {l:List α}{b0 b1 b2 b3 b4 b5 b6 b7 b8 b9:β},l.map f=[b0,b1,b2,b3,b4,b5,b6,b7,b8,b9] ->
  ∃ a0 a1 a2 a3 a4 a5 a6 a7 a8 a9,l=[a0,a1,a2,a3,a4,a5,a6,a7,a8,a9]/\f a0=b0/\f a1=b1/\f a2=b2/\f a3=b3/\f a4=b4/\f a5=b5/\f a6=b6/\f a7=b7/\f a8=b8/\f a9=b9
 | [a0,a1,a2,a3,a4,a5,a6,a7,a8,a9],b0,b1,b2,b3,b4,b5,b6,b7,b8,b9,h=>by
  simp only [List.map_cons,List.map_nil,List.cons.injEq,and_true] at h;exact ⟨a0,a1,a2,a3,a4,a5,a6,a7,a8,a9,rfl,h⟩
 | [],_,_,_,_,_,_,_,_,_,_,h=>by simp at h
 | [_],_,_,_,_,_,_,_,_,_,_,h=>by simp at h
 | [_,_],_,_,_,_,_,_,_,_,_,_,h=>by simp at h
 | [_,_,_],_,_,_,_,_,_,_,_,_,_,h=>by simp at h
 | [_,_,_,_],_,_,_,_,_,_,_,_,_,_,h=>by simp at h
 | [_,_,_,_,_],_,_,_,_,_,_,_,_,_,_,h=>by simp at h
 | [_,_,_,_,_,_],_,_,_,_,_,_,_,_,_,_,h=>by simp at h
 | [_,_,_,_,_,_,_],_,_,_,_,_,_,_,_,_,_,h=>by simp at h
 | [_,_,_,_,_,_,_,_],_,_,_,_,_,_,_,_,_,_,h=>by simp at h
 | [_,_,_,_,_,_,_,_,_],_,_,_,_,_,_,_,_,_,_,h=>by simp at h
 | _ :: _ :: _ :: _ :: _ :: _ :: _ :: _ :: _ :: _ :: _ :: _,_,_,_,_,_,_,_,_,_,_,h=>by simp at h
theorem st_go {P:Program}{st:AE.Stat}{call:CallA}{ops:Array Oper}{o:Oper}{τ:Array Value}{σ σ':Heap}{v:Value}{d:Option Tmp}{op:Op}(ho:(o.dst,o.op,o.guard)=(d,op,none)) (h:o.op=op->opA P st call (evalT τ) o σ=some (v,σ')):stepA P st call ops o τ σ=some (putT τ d v,σ'):=by
 simp only [Prod.mk.injEq] at ho;obtain ⟨rfl,h1,h2⟩:=ho;unfold stepA guardOk Region.wanted;rw [h2,h h1];rfl
theorem gdp {τ:Array Value}{d t:Nat}{v:Value}(h:d<τ.size):(putT τ (some d) v).getD t undef=if t=d then v else τ.getD t undef:=by
 show (τ.setIfInBounds d v).getD t undef=_
 by_cases e:t=d
 ·subst e;rw [if_pos rfl];simp [Array.getD,h]
 ·rw [if_neg e];simp only [Array.getD,Array.size_setIfInBounds];split
  ·rename_i h2
   show (τ.setIfInBounds d v)[t]'(by simpa using h2)=τ[t]'h2
   rw [Array.getElem_setIfInBounds,if_neg (fun q=>e q.symm)]
  ·rfl
theorem sz (τ:Array Value) (d:Nat) (v:Value):(putT τ (some d) v).size=τ.size:=by
 show (τ.setIfInBounds d v).size=_;simp
theorem ef_call {st:AE.Stat}(h145:∀ a σ,st.ext 145 a σ=RL.app σ (effD.ans a (hp σ) σ.length)) (n m:Nat) {σ:Heap}{ba:Nat}{la:List Value}(hba:σ[ba]?=some (some (.cells la))):enterA Tryz.prog (runF Tryz.prog st n (m+1)) 145 [.pointer (some ⟨ba,0,none⟩)] σ=some (.map (some (σ.length+26)),σ++effN ba σ.length):=by
 have h1:(Tryz.f145.name== "runtime.NumGoroutine")=false:=by kernel_rfl
 have h2:Tryz.f145.body.isNone=false:=by kernel_rfl
 have hlt:ba<σ.length:=(List.getElem?_eq_some_iff.1 hba).1
 have he:st.ext 145 [.pointer (some ⟨ba,0,none⟩)] σ=some (.map (some (σ.length+26)),σ++effN ba σ.length):=by
  rw [h145,eff_ans ⟨_,by unfold hp; rw [hba]; rfl⟩ hlt]
  show some (_,((effN ba σ.length).map E1.new).foldl E1.app σ)=_;rw [app_new]
 unfold enterA;rw [Tryz.func145];simp only [h1,h2,Bool.false_eq_true,if_false,runF,Tryz.func145,he]
theorem tr_cons {P:Program}{st:AE.Stat}{call:CallA}{ops:Array Oper}{o:Oper}{rest:List Oper}{τ τ':Array Value}{σ σ':Heap}{l:List (Array Value×Heap)}(h:stepA P st call ops o τ σ=some (τ',σ')) (h2:traceA P st call ops rest τ' σ'=some l):traceA P st call ops (o :: rest) τ σ=some ((τ,σ) :: l):=by
 rw [traceA,h]
 dsimp only
 rw [h2];rfl
theorem st_mv {st:AE.Stat}{call:CallA}{o:Oper}{d:Option Tmp}{x:Operand}{τ:Array Value}{σ:Heap}{w:Value}(h:(o.dst,o.op,o.guard)=(d,.move x,none)\/(o.dst,o.op,o.guard)=(d,.assign x,none)) (hc:constsOk (.move x)=true) (hw:evalT τ x=w) :
  stepA Tryz.prog st call efO o τ σ=some (putT τ d w,σ):=by
 have hc2:constsOk (.assign x)=true:=hc
 rcases h with h | h
 ·exact st_go h fun q=>by rw [opA_move (by rw [q]; exact hc) (.inl q),hw]
 ·exact st_go h fun q=>by rw [opA_move (by rw [q]; exact hc2) (.inr q),hw]
theorem st_nf {st:AE.Stat}{call:CallA}{o:Oper}{d:Option Tmp}{op:Op}{x:Operand}{τ:Array Value}{σ σ':Heap}{w:Value}(h:(o.dst,o.op,o.guard)=(d,op,none)) (hc:constsOk op=true) (hx:x∈op.operands) (hf:flat (evalT τ x)=false) (hw:specA Tryz.prog st call (evalT τ) op σ=some (w,σ')) :
  stepA Tryz.prog st call efO o τ σ=some (putT τ d w,σ'):=st_go h fun q=>by
 rw [opA_none (by rw [q]; exact hc) (peekA_nonflat (x:=x) (by rw [q]; exact hx) hf),q]
 exact hw
def efT1 (τ:Array Value) (ba:Nat):Array Value:=putT τ (some 18) (.pointer (some ⟨ba,0,none⟩))
def efT2 (τ:Array Value) (ba N:Nat):Array Value:=putT (efT1 τ ba) (some 19) (.map (some (N+26)))
def efT3 (τ:Array Value) (ba be N:Nat):Array Value:=putT (efT2 τ ba N) (some 20) (.pointer (some ⟨be,2,none⟩))
def efT4 (τ:Array Value) (ba be N:Nat) (c:Int):Array Value:=putT (efT3 τ ba be N) (some 21) (.int .u8 c)
def efT5 (τ:Array Value) (ba be N:Nat) (c:Int) (v:Value):Array Value:=putT (efT4 τ ba be N c) (some 22) (.tuple #[v,.bool true])
def efT6 (τ:Array Value) (ba be N:Nat) (c:Int) (v:Value):Array Value:=putT (efT5 τ ba be N c v) (some 17) (.tuple #[v,.bool true])
def efT7 (τ:Array Value) (ba be N:Nat) (c:Int) (v:Value):Array Value:=putT (efT6 τ ba be N c v) (some 23) v
def efT8 (τ:Array Value) (ba be N:Nat) (c:Int) (v:Value):Array Value:=putT (efT7 τ ba be N c v) (some 24) (.bool true)
def efT9 (τ:Array Value) (ba be N:Nat) (c:Int) (v:Value):Array Value:=putT (efT8 τ ba be N c v) (some 7) v
def efT10 (τ:Array Value) (ba be N:Nat) (c:Int) (v:Value):Array Value:=putT (efT9 τ ba be N c v) (some 8) (.bool true)
theorem evT (τ:Array Value) (t:Nat):evalT τ (.tmp t)=τ.getD t undef:=rfl
theorem callA_fn {P:Program}{st:AE.Stat}{call:CallA}{ev:Operand->Value}{c:Go.Call}{σ:Heap}{x:Operand}{g:FuncId}(h:c.callee=.value x) (hx:ev x=.func (.func g) #[] #[]):callA P st call ev c σ=enterA P call g (c.args.toList.map ev) σ:=by
 unfold callA;rw [h];simp [hx]
section
variable {st:AE.Stat}{call:CallA}{τ:Array Value}{σ σ1:Heap}{ba be N:Nat}{le:List Value}{c:Int}{v:Value}
theorem ef_s1 (hs:τ.size=85) (hcall:enterA Tryz.prog call 145 [.pointer (some ⟨ba,0,none⟩)] σ=some (.map (some (N+26)),σ1)) {o:Oper}(p1:(o.dst,o.op,o.guard)=(some 19,.call { callee:=.value (.func 145),args:=#[.tmp 18],argTypes:=#[71] },none)) :
  stepA Tryz.prog st call efO o (efT1 τ ba) σ=some (efT2 τ ba N,σ1):=by
 have e:evalT (efT1 τ ba) (.tmp 18)=.pointer (some ⟨ba,0,none⟩):=by
  rw [evT];unfold efT1
  rw [gdp (by omega),if_pos rfl]
 refine st_nf p1 rfl (x:=.tmp 18) (by simp [Op.operands,Go.Call.operands]) (by rw [e]; rfl) ?_
 rw [specA,callA_fn (x:=.func 145) (g:=145) rfl rfl];rw [List.map_cons,List.map_nil,e];exact hcall
theorem ef_s2 (hs:τ.size=85) (h3:τ.getD 3 undef=.pointer (some ⟨be,0,none⟩)) {o:Oper}(p2:(o.dst,o.op,o.guard)=(some 20,.fieldAddr 80 (.tmp 3) 2,none)) :
  stepA Tryz.prog st call efO o (efT2 τ ba N) σ1=some (efT3 τ ba be N,σ1):=by
 have e:evalT (efT2 τ ba N) (.tmp 3)=.pointer (some ⟨be,0,none⟩):=by
  rw [evT];unfold efT2 efT1
  rw [gdp (by rw [sz]; omega),if_neg (by decide),gdp (by omega),if_neg (by decide),h3]
 refine st_nf p2 rfl (x:=.tmp 3) (by simp [Op.operands]) (by rw [e]; rfl) ?_
 rw [specA,e,show fieldAddrA Tryz.prog 80 (.pointer (some ⟨be,0,none⟩)) 2=some (.pointer (some ⟨be,2,none⟩)) by kernel_rfl]
 rfl
theorem ef_s3 (hs:τ.size=85) (hbe2:σ1[be]?=some (some (.cells le))) (hc:le[2]?=some (.int .u8 c)) {o:Oper}(p3:(o.dst,o.op,o.guard)=(some 21,.load 5 (.tmp 20),none)) :
  stepA Tryz.prog st call efO o (efT3 τ ba be N) σ1=some (efT4 τ ba be N c,σ1):=by
 have s2:(efT2 τ ba N).size=85:=by unfold efT2 efT1; rw [sz,sz,hs]
 have e:evalT (efT3 τ ba be N) (.tmp 20)=.pointer (some ⟨be,2,none⟩):=by
  rw [evT];unfold efT3
  rw [gdp (by omega),if_pos rfl]
 have h2:2<le.length:=(List.getElem?_eq_some_iff.1 hc).1
 have el:loadN st σ1 ⟨be,2,none⟩ 1=some [.int .u8 c]:=by
  unfold loadN;simp only [hbe2]
  rw [if_pos (by show 2+1<=le.length; omega)]
  have:(le.drop 2).take 1=[.int .u8 c]:=by
   rw [List.drop_eq_getElem_cons h2];have:=(List.getElem?_eq_some_iff.1 hc).2;rw [this];rfl
  rw [this]
 have ev:loadV Tryz.prog st σ1 5 ⟨be,2,none⟩=some (.int .u8 c):=by
  unfold loadV;rw [Tryz.underlying5];have:aggDesc (.int .u8)=false:=rfl;simp only [this,Bool.false_eq_true,if_false,el]
 refine st_nf p3 rfl (x:=.tmp 20) (by simp [Op.operands]) (by rw [e]; rfl) ?_
 rw [specA,e]
 dsimp only
 rw [ev];rfl
theorem ef_s4 (hs:τ.size=85) (hv:pmapB Tryz.prog 187 (.int .u8 c) (σ1[N+26]?).join=some v) {o:Oper}(p4:(o.dst,o.op,o.guard)=(some 22,.lookup 187 (.tmp 19) (.tmp 21) true,none)) :
  stepA Tryz.prog st call efO o (efT4 τ ba be N c) σ1=some (efT5 τ ba be N c v,σ1):=by
 have s3:(efT3 τ ba be N).size=85:=by unfold efT3 efT2 efT1; rw [sz,sz,sz,hs]
 have s1:(efT1 τ ba).size=85:=by unfold efT1; rw [sz,hs]
 have e:evalT (efT4 τ ba be N c) (.tmp 19)=.map (some (N+26)):=by
  rw [evT];unfold efT4
  rw [gdp (by omega),if_neg (by decide)]
  unfold efT3 efT2
  rw [gdp (by rw [sz]; omega),if_neg (by decide),gdp (by omega),if_pos rfl]
 have e2:evalT (efT4 τ ba be N c) (.tmp 21)=.int .u8 c:=by
  rw [evT];unfold efT4
  rw [gdp (by omega),if_pos rfl]
 refine st_nf p4 rfl (x:=.tmp 19) (by simp [Op.operands]) (by rw [e]; rfl) ?_
 rw [specA,e,e2];unfold lookupA pmapA
 dsimp only
 rw [hv];rfl
theorem ef_s67 (hs:τ.size=85) (hfl:flat (.tuple #[v,.bool true])=false) {o o':Oper}(p6:(o.dst,o.op,o.guard)=(some 23,.extract (.tmp 17) 0,none)) (p7:(o'.dst,o'.op,o'.guard)=(some 24,.extract (.tmp 17) 1,none)) :
  stepA Tryz.prog st call efO o (efT6 τ ba be N c v) σ1=some (efT7 τ ba be N c v,σ1)/\stepA Tryz.prog st call efO o' (efT7 τ ba be N c v) σ1=some (efT8 τ ba be N c v,σ1):=by
 have s5:(efT5 τ ba be N c v).size=85:=by unfold efT5 efT4 efT3 efT2 efT1; rw [sz,sz,sz,sz,sz,hs]
 have e:evalT (efT6 τ ba be N c v) (.tmp 17)=.tuple #[v,.bool true]:=by
  rw [evT];unfold efT6
  rw [gdp (by omega),if_pos rfl]
 have e2:evalT (efT7 τ ba be N c v) (.tmp 17)=.tuple #[v,.bool true]:=by
  rw [evT];unfold efT7
  rw [gdp (by unfold efT6; rw [sz]; omega),if_neg (by decide),<- evT]
  exact e
 refine ⟨st_nf p6 rfl (x:=.tmp 17) (by simp [Op.operands]) (by rw [e]; exact hfl) ?_,st_nf p7 rfl (x:=.tmp 17) (by simp [Op.operands]) (by rw [e2]; exact hfl) ?_⟩
 ·rw [specA,e];rfl
 ·rw [specA,e2];rfl
theorem ef_trace (hcall:enterA Tryz.prog call 145 [.pointer (some ⟨ba,0,none⟩)] σ=some (.map (some (N+26)),σ1))
  (hs:τ.size=85) (h0:τ.getD 0 undef=.pointer (some ⟨ba,0,none⟩)) (h3:τ.getD 3 undef=.pointer (some ⟨be,0,none⟩)) (hbe2:σ1[be]?=some (some (.cells le))) (hc:le[2]?=some (.int .u8 c))
  (hv:pmapB Tryz.prog 187 (.int .u8 c) (σ1[N+26]?).join=some v) (hfl:flat (.tuple #[v,.bool true])=false) :
  traceA Tryz.prog st call efO efO.toList τ σ=some [(τ,σ),(efT1 τ ba,σ),(efT2 τ ba N,σ1),(efT3 τ ba be N,σ1),(efT4 τ ba be N c,σ1),(efT5 τ ba be N c v,σ1),
   (efT6 τ ba be N c v,σ1),(efT7 τ ba be N c v,σ1),(efT8 τ ba be N c v,σ1),(efT9 τ ba be N c v,σ1),(efT10 τ ba be N c v,σ1)]:=by
 obtain ⟨o0,o1,o2,o3,o4,o5,o6,o7,o8,o9,hl,p0,p1,p2,p3,p4,p5,p6,p7,p8,p9⟩:=list10 efO_ops;rw [hl]
 have s4:(efT4 τ ba be N c).size=85:=by unfold efT4 efT3 efT2 efT1; rw [sz,sz,sz,sz,hs]
 have s6:(efT6 τ ba be N c v).size=85:=by unfold efT6 efT5; rw [sz,sz,s4]
 have s7:(efT7 τ ba be N c v).size=85:=by unfold efT7; rw [sz,s6]
 have s8:(efT8 τ ba be N c v).size=85:=by unfold efT8; rw [sz,s7]
 obtain ⟨q6,q7⟩:=ef_s67 (st:=st) (call:=call) (σ1:=σ1) (ba:=ba) (be:=be) (N:=N) (c:=c) (v:=v) hs hfl p6 p7
 have e5:evalT (efT5 τ ba be N c v) (.tmp 22)=.tuple #[v,.bool true]:=by
  rw [evT];unfold efT5
  rw [gdp (by omega),if_pos rfl]
 have e8:evalT (efT8 τ ba be N c v) (.tmp 23)=v:=by
  rw [evT];unfold efT8
  rw [gdp (by omega),if_neg (by decide)]
  unfold efT7
  rw [gdp (by omega),if_pos rfl]
 have e9:evalT (efT9 τ ba be N c v) (.tmp 24)=.bool true:=by
  rw [evT];unfold efT9
  rw [gdp (by omega),if_neg (by decide)]
  unfold efT8
  rw [gdp (by omega),if_pos rfl]
 exact tr_cons (st_mv (.inl p0) rfl h0) (tr_cons (ef_s1 hs hcall p1) (tr_cons (ef_s2 hs h3 p2) (tr_cons (ef_s3 hs hbe2 hc p3) (tr_cons (ef_s4 hs hv p4) (tr_cons (st_mv (.inl p5) rfl e5) (tr_cons q6 (tr_cons q7 (tr_cons (st_mv (.inr p8) rfl e8) (tr_cons (st_mv (.inr p9) rfl e9) rfl)))))))))
theorem at10 {α:Type}{a0 a1 a2 a3 a4 a5 a6 a7 a8 a9 x:α}{i:Nat}(h:[a0,a1,a2,a3,a4,a5,a6,a7,a8,a9][i]?=some x):(i=0/\x=a0)\/(i=1/\x=a1)\/(i=2/\x=a2)\/(i=3/\x=a3)\/(i=4/\x=a4)\/(i=5/\x=a5)\/(i=6/\x=a6)\/(i=7/\x=a7)\/(i=8/\x=a8)\/(i=9/\x=a9):=by
 match i,h with
 | 0,h=>exact .inl ⟨rfl,(Option.some.inj h).symm⟩
 | 1,h=>exact .inr (.inl ⟨rfl,(Option.some.inj h).symm⟩)
 | 2,h=>exact .inr (.inr (.inl ⟨rfl,(Option.some.inj h).symm⟩))
 | 3,h=>exact .inr (.inr (.inr (.inl ⟨rfl,(Option.some.inj h).symm⟩)))
 | 4,h=>exact .inr (.inr (.inr (.inr (.inl ⟨rfl,(Option.some.inj h).symm⟩))))
 | 5,h=>exact .inr (.inr (.inr (.inr (.inr (.inl ⟨rfl,(Option.some.inj h).symm⟩)))))
 | 6,h=>exact .inr (.inr (.inr (.inr (.inr (.inr (.inl ⟨rfl,(Option.some.inj h).symm⟩))))))
 | 7,h=>exact .inr (.inr (.inr (.inr (.inr (.inr (.inr (.inl ⟨rfl,(Option.some.inj h).symm⟩)))))))
 | 8,h=>exact .inr (.inr (.inr (.inr (.inr (.inr (.inr (.inr (.inl ⟨rfl,(Option.some.inj h).symm⟩))))))))
 | 9,h=>exact .inr (.inr (.inr (.inr (.inr (.inr (.inr (.inr (.inr ⟨rfl,(Option.some.inj h).symm⟩))))))))
 | i+10,h=>simp at h
theorem ef_draw (hcall:enterA Tryz.prog call 145 [.pointer (some ⟨ba,0,none⟩)] σ=some (.map (some (N+26)),σ1)) (hpre:σ1[be]?=σ[be]?)
  (hs:τ.size=85) (h0:τ.getD 0 undef=.pointer (some ⟨ba,0,none⟩)) (h3:τ.getD 3 undef=.pointer (some ⟨be,0,none⟩)) (hbe:σ[be]?=some (some (.cells le))) (hc:le[2]?=some (.int .u8 c))
  (hv:pmapB Tryz.prog 187 (.int .u8 c) (σ1[N+26]?).join=some v) (hfl:flat (.tuple #[v,.bool true])=false) :
  drawA Tryz.prog st call efO τ σ=some (efT10 τ ba be N c v,σ1):=by
 have tr:=ef_trace (st:=st) hcall hs h0 h3 (hpre.trans hbe) hc hv hfl;unfold drawA;rw [if_pos efO_static,tr]
 dsimp only
 have hD:DynP Tryz.prog st efO [(τ,σ),(efT1 τ ba,σ),(efT2 τ ba N,σ1),(efT3 τ ba be N,σ1),(efT4 τ ba be N c,σ1),(efT5 τ ba be N c v,σ1),(efT6 τ ba be N c v,σ1),(efT7 τ ba be N c v,σ1),(efT8 τ ba be N c v,σ1),(efT9 τ ba be N c v,σ1),(efT10 τ ba be N c v,σ1)]:=by
  obtain ⟨o0,o1,o2,o3,o4,o5,o6,o7,o8,o9,hl,p0,p1,p2,p3,p4,p5,p6,p7,p8,p9⟩:=list10 efO_ops;simp only [Prod.mk.injEq] at p0 p1 p2 p3 p4 p5 p6 p7 p8 p9;intro i j x y τi τj τk σi σj σk hx hy hti htj htk wi wj cy q1 q2
  have hx':efO.toList[i]?=some x:=by simpa using hx
  have hy':efO.toList[j]?=some y:=by simpa using hy
  rw [hl] at hx' hy'
  have c2:cls x.op≠2:=by
   rcases at10 hx' with ⟨-,e⟩ | ⟨-,e⟩ | ⟨-,e⟩ | ⟨-,e⟩ | ⟨-,e⟩ | ⟨-,e⟩ | ⟨-,e⟩ | ⟨-,e⟩ | ⟨-,e⟩ | ⟨-,e⟩<;>subst e
   ·rw [p0.2.1]; decide
   ·rw [p1.2.1]; decide
   ·rw [p2.2.1]; decide
   ·rw [p3.2.1]; decide
   ·rw [p4.2.1]; decide
   ·rw [p5.2.1]; decide
   ·rw [p6.2.1]; decide
   ·rw [p7.2.1]; decide
   ·rw [p8.2.1]; decide
   ·rw [p9.2.1]; decide
  refine ⟨fun cx=>?_,fun e=>absurd e c2⟩
  have cj:j=1\/j=4:=by
   rcases at10 hy' with ⟨-,e⟩ | ⟨h,-⟩ | ⟨-,e⟩ | ⟨-,e⟩ | ⟨h,-⟩ | ⟨-,e⟩ | ⟨-,e⟩ | ⟨-,e⟩ | ⟨-,e⟩ | ⟨-,e⟩<;>first | exact .inl h | exact .inr h | (subst e; exfalso; revert cy)
   ·rw [p0.2.1]; decide
   ·rw [p2.2.1]; decide
   ·rw [p3.2.1]; decide
   ·rw [p5.2.1]; decide
   ·rw [p6.2.1]; decide
   ·rw [p7.2.1]; decide
   ·rw [p8.2.1]; decide
   ·rw [p9.2.1]; decide
  rcases cj with rfl | rfl
  ·obtain ⟨rfl,rfl⟩:i=3/\x=o3:=by
    rcases at10 hx' with ⟨-,e⟩ | ⟨-,e⟩ | ⟨-,e⟩ | h | ⟨-,e⟩ | ⟨-,e⟩ | ⟨-,e⟩ | ⟨-,e⟩ | ⟨-,e⟩ | ⟨-,e⟩<;>first | exact h | (subst e; exfalso; revert cx)
    ·rw [p0.2.1]; decide
    ·rw [p1.2.1]; decide
    ·rw [p2.2.1]; decide
    ·rw [p4.2.1]; decide
    ·rw [p5.2.1]; decide
    ·rw [p6.2.1]; decide
    ·rw [p7.2.1]; decide
    ·rw [p8.2.1]; decide
    ·rw [p9.2.1]; decide
   have e3:τi=efT3 τ ba be N:=by
    have:=Option.some.inj hti;exact (congrArg Prod.fst this).symm
   have ej:σj=σ:=(congrArg Prod.snd (Option.some.inj htj)).symm;have ek:σk=σ1:=(congrArg Prod.snd (Option.some.inj htk)).symm;subst e3;rw [ej,ek];unfold loadAtA;rw [p3.2.1]
   have s2:(efT2 τ ba N).size=85:=by unfold efT2 efT1; rw [sz,sz,hs]
   have e:evalT (efT3 τ ba be N) (.tmp 20)=.pointer (some ⟨be,2,none⟩):=by
    rw [evT];unfold efT3
    rw [gdp (by omega),if_pos rfl]
   dsimp only
   rw [e];exact loadV_congr (.inr hpre.symm)
  ·have ej:σj=σ1:=(congrArg Prod.snd (Option.some.inj htj)).symm;have ek:σk=σ1:=(congrArg Prod.snd (Option.some.inj htk)).symm;rw [ej,ek]
 have hB:dynB Tryz.prog st efO [(τ,σ),(efT1 τ ba,σ),(efT2 τ ba N,σ1),(efT3 τ ba be N,σ1),(efT4 τ ba be N c,σ1),(efT5 τ ba be N c v,σ1),(efT6 τ ba be N c v,σ1),(efT7 τ ba be N c v,σ1),(efT8 τ ba be N c v,σ1),(efT9 τ ba be N c v,σ1),(efT10 τ ba be N c v,σ1)]=true:=by
  unfold dynB;rw [Bool.or_eq_true];exact .inr (@decide_eq_true _ (Classical.propDecidable _) hD)
 rw [if_pos hB];rfl
end
end Go.Proofs.YtigmkgampfbflaaGreatDoor
namespace Go.Proofs.YtigmkgampfbflaaGreatDoor
open Go Go.AE Go.DE Go.RowKit
theorem st_junk {st:AE.Stat}{C:Cf}{μ:Mu}{σ:Heap}{σd:DHeap}(h:St st C μ σ σd) (ex:List (Option Blk)):St st C μ (σ++ex) σd/\Nx C μ σ σd C μ (σ++ex) σd :=
 ⟨⟨fun t b s o v q=>cellA_append (h.frz t b s o v q),fun id blk hb=>by
   obtain ⟨b,L,l,h1,h2,h3,h4⟩:=h.own id blk hb
   exact ⟨b,L,l,h1,h2,(List.getElem?_append_left (List.getElem?_eq_some_iff.1 h3).1).trans h3,h4⟩,
  h.sep,h.inj,fun id x hx=>(by have:=h.dom id x hx; rw [List.length_append]; omega),fun t b o v q=>(by have:=h.low t b o v q; rw [List.length_append]; omega),h.sta⟩,
  ⟨Cf.le_refl _,Mu.le_refl _,(by rw [List.length_append]; omega),Nat.le_refl _,fun b hb _=>List.getElem?_append_left hb,fun b hl _=>hl,fun _ _ _ _ _ x=>.inl x⟩⟩
def regId:Code->Nat
 | .seq (.region i _ _) _=>i
 | _=>0
def efK:Int->DV->Option (Nat×Nat×DV)
 | 72,m=>some (0,197,m)
 | 110,m=>some (25,194,.fn (.func 220) [m] [])
 | _,_=>none
noncomputable def efS (E:Env Unit):LoopD Unit:=fun τ σ k=>bif Nat.beq τ.length 85 then
 match τ.getD 0 .any,τ.getD 3 .any with
 | .po m 0 0,.po e 0 0=>match σ[m]?,σ[e]? with
  | some (some _),some (some ⟨7,c⟩)=>bif Nat.ble 1 c.n then match c.get 0 2 with
   | .v (.int .u8 x)=>match efK x (.po m 0 0) with
    | some (_,f,d)=>execD Tryz.prog E (segB (pieceOf Tryz.f85 3839)) 7679 ((((((((((τ.set 18 .any).set 19 .any).set 20 .any).set 21 .any).set 22 .any).set 17 .any).set 23 .any).set 24 .any).set 7 (.fn (.func f) [] [.po σ.length 0 0])).set 8 (bv true)) (σ++[some ⟨1,.lst [[d]]⟩]) k
    | none=>none
   | _=>none
   else none
  | _,_=>none
 | _,_=>none
 else none
theorem ef_piece:pieceOf Tryz.f85 3839=.seq (.region (regId (pieceOf Tryz.f85 3839)) efO true) (segB (pieceOf Tryz.f85 3839)):=by kernel_rfl
theorem po_block {st:AE.Stat}{C:Cf}{μ:Mu}{σ:Heap}{σd:DHeap}(hS:St st C μ σ σd) {m:Nat}{B:DBlk}{v:Value}(hb:σd[m]?=some (some B)) (h:DR C μ (.po m 0 0) v):∃ b L l,v=.pointer (some ⟨b,0,none⟩)/\μ m=some (b,B.k,L)/\σ[b]?=some (some (.cells l)) /\
  ∀ i f,i<B.c.n->f<B.k->∃ w,l[i*B.k+f]?=some w/\w.oneCell'=true/\DR C μ (B.c.get i f) w:=by
 obtain ⟨b,k,L,e0,hm,-⟩:=h.po_inv;obtain ⟨b2,L2,l,h1,-,h3,-,-,-,h7⟩:=hS.own m B hb;rw [hm] at h1
 obtain ⟨rfl,rfl,rfl⟩:=by simpa using h1
 exact ⟨b,L,l,by simpa using e0,hm,h3,h7⟩
theorem ef_at {C:Cf}{μ:Mu}{x:Int}{m:Nat}{q f:Nat}{d:DV}(h:efK x (.po m 0 0)=some (q,f,d)) {ba:Nat}(hm:DR C μ (.po m 0 0) (.pointer (some ⟨ba,0,none⟩))) (N:Nat) :
  ∃ v,(effN ba N)[q]?=some (some (.cells [v]))/\v.oneCell'=true/\DR C μ d v/\pmapB Tryz.prog 187 (.int .u8 x) ((effN ba N)[26]?).join=some (.func (.func f) #[] #[.pointer (some ⟨N+q,0,none⟩)]):=by
 unfold efK at h
 split at h<;>first | (cases h; done) | skip
 ·obtain ⟨rfl,rfl,rfl⟩:=by simpa using h
  exact ⟨_,eff_box ba N,rfl,hm,eff_to ba N⟩
 ·obtain ⟨rfl,rfl,rfl⟩:=by simpa using h
  refine ⟨_,eff_rep ba N,rfl,.fn _ _ _ _ _ rfl rfl (fun i d x h1 h2=>?_) (fun i d x h1 h2=>by simp at h1),eff_n ba N⟩
  cases i with
  | succ i=>simp at h1
  | zero =>
   obtain rfl:DV.po m 0 0=d:=by simpa using h1
   obtain rfl:Value.pointer (some ⟨ba,0,none⟩)=x:=by simpa using h2
   exact hm
theorem efS_ok {st:AE.Stat}{E:Env Unit}(hE:EnvOk Tryz.prog st E) (h145:∀ a σ,st.ext 145 a σ=RL.app σ (effD.ans a (hp σ) σ.length))
  (hl:∀ x∈loopsL 7679 (segB (pieceOf Tryz.f85 3839)),∀ g,E.lp x.1=some g->LoopSR E.gz Tryz.prog st E.gl x.2 g):LoopSR E.gz Tryz.prog st E.gl (pieceOf Tryz.f85 3839) (efS E):=by
 intro τd σd k r hx C μ τ σ h;unfold efS at hx;obtain ⟨hlen,hx⟩:=bif_none hx;have hlen:=Nat.eq_of_beq_eq_true hlen
 have hs:τ.size=85:=by rw [<- hlen,h.T.1,Array.length_toList]
 have h0:=h.T.getD 0 undef;have h3:=h.T.getD 3 undef
 split at hx<;>first | (cases hx; done) | skip
 rename_i m e e0 e3;rw [e0] at h0;rw [e3] at h3
 split at hx<;>first | (cases hx; done) | skip
 rename_i B c hB hc;obtain ⟨hcn,hx⟩:=bif_none hx;have hcn:=Nat.le_of_ble_eq_true hcn
 split at hx<;>first | (cases hx; done) | skip
 rename_i x hcx
 split at hx<;>first | (cases hx; done) | skip
 rename_i q f d hk;obtain ⟨ba,La,la,va,ma,sa,-⟩:=po_block h.S hB h0;obtain ⟨be,Le,le,ve,me,se,ce⟩:=po_block h.S hc h3
 obtain ⟨w,hw,-,hwr⟩:=ce 0 2 (show 0<c.n by omega) (show 2<7 by decide)
 rw [show (DBlk.mk 7 c).c.get 0 2=.v (.int .u8 x) from hcx] at hwr;cases hwr;rw [va] at h0;obtain ⟨v,n1,n2,n3,n4⟩:=ef_at hk h0 σ.length
 have t0:τ.getD 0 undef=.pointer (some ⟨ba,0,none⟩):=by
  rw [Array.getD_eq_getD_getElem?,<- Array.getElem?_toList,<- List.getD_eq_getElem?_getD]; exact va
 have t3:τ.getD 3 undef=.pointer (some ⟨be,0,none⟩):=by
  rw [Array.getD_eq_getD_getElem?,<- Array.getElem?_toList,<- List.getD_eq_getElem?_getD]; exact ve
 have hq:q<(effN ba σ.length).length:=(List.getElem?_eq_some_iff.1 n1).1
 have es:effN ba σ.length=(effN ba σ.length).take q++[some (.cells [v])]++(effN ba σ.length).drop (q+1):=by
  obtain ⟨hq2,e⟩:=List.getElem?_eq_some_iff.1 n1;rw [<- e];simp
 have hbe:be<σ.length:=(List.getElem?_eq_some_iff.1 se).1
 have draw:∀ n m',1<=m'->drawA Tryz.prog st (runF Tryz.prog st n m') efO τ σ=some (efT10 τ ba be σ.length x (.func (.func f) #[] #[.pointer (some ⟨σ.length+q,0,none⟩)]),σ++effN ba σ.length):=fun n m' hm=>by
  obtain ⟨m',rfl⟩:∃ m2,m'=m2+1:=⟨m'-1,by omega⟩
  refine ef_draw (ef_call h145 n m' sa) (List.getElem?_append_left hbe) hs t0 t3 se (by simpa using hw) ?_ rfl
  rw [List.getElem?_append_right (by omega),show σ.length+26-σ.length=26 by omega]
  exact n4
 obtain ⟨j1,x1⟩:=st_junk h.S ((effN ba σ.length).take q)
 have lq:(σ++(effN ba σ.length).take q).length=σ.length+q:=by rw [List.length_append,List.length_take]; omega
 obtain ⟨j2,x2⟩:=j1.push (k:=1) (c:=.lst [[d]]) (l:=[v]) (by decide) (by simp [DC.n]) trivial fun i f hi hf=>by
  obtain rfl:i=0:=by simpa [DC.n] using hi
  obtain rfl:f=0:=by omega
  exact ⟨v,rfl,n2,n3⟩
 obtain ⟨j3,x3⟩:=st_junk j2 ((effN ba σ.length).drop (q+1))
 have ej:σ++(effN ba σ.length).take q++[some (.cells [v])]++(effN ba σ.length).drop (q+1)=σ++effN ba σ.length:=by
  conv=>rhs; rw [es]
  simp
 rw [ej] at j3 x3;rw [lq] at j3 x3 x2;have xx:=(x1.trans x2).trans x3
 have hT:DRL C (μ.put σd.length (σ.length+q,1,[v].length)) ((((((((((τd.set 18 .any).set 19 .any).set 20 .any).set 21 .any).set 22 .any).set 17 .any).set 23 .any).set 24 .any).set 7 (.fn (.func f) [] [.po σd.length 0 0])).set 8 (bv true))
   (efT10 τ ba be σ.length x (.func (.func f) #[] #[.pointer (some ⟨σ.length+q,0,none⟩)])).toList:=by
  have b:=h.T.mono xx.hC xx.hμ;unfold efT10 efT9 efT8 efT7 efT6 efT5 efT4 efT3 efT2 efT1;refine DRL.put (DRL.put (DRL.put (DRL.put (DRL.put (DRL.put (DRL.put (DRL.put (DRL.put (DRL.put b (some 18) (.any _)) (some 19) (.any _)) (some 20) (.any _)) (some 21) (.any _)) (some 22) (.any _)) (some 17) (.any _)) (some 23) (.any _)) (some 24) (.any _)) (some 7) ?_) (some 8) (.v _ rfl)
  refine .fn _ _ _ _ _ rfl rfl (fun i d x h1 h2=>by simp at h1) (fun i d x h1 h2=>?_)
  cases i with
  | succ i=>simp at h1
  | zero =>
   obtain rfl:DV.po σd.length 0 0=d:=by simpa using h1
   obtain rfl:Value.pointer (some ⟨σ.length+q,0,none⟩)=x:=by simpa using h2
   exact .po _ _ _ (σ.length+q) 1 1 _ (by unfold Mu.put; rw [if_pos rfl]; rfl) (by decide) (by simp)
 obtain ⟨e2,τ2,σ2,C2,μ2,τd2,σd2,⟨M,hM⟩,h2,n2',hx⟩:=execD_some hE (segB (pieceOf Tryz.f85 3839)) 7679 hl (C:=C) ⟨j3,hT,fun g=>(h.G g).mono xx.hC xx.hμ⟩ hx
 refine ⟨e2,τ2,σ2,C2,μ2,τd2,σd2,⟨max 1 M,fun n m' hn hm=>?_⟩,h2,(NRel.b E.gz).tr ((NRel.b E.gz).of xx.one) n2',hx⟩
 have hM':execA Tryz.prog st (runF Tryz.prog st n m') n (segB (pieceOf Tryz.f85 3839)) _ _=some (e2,τ2,σ2):=hM n m' (by omega) (by omega)
 show execA Tryz.prog st (runF Tryz.prog st n m') n (pieceOf Tryz.f85 3839) τ σ=_;rw [ef_piece]
 simp only [execA,draw n m' (by omega),if_true]
 exact hM'
end Go.Proofs.YtigmkgampfbflaaGreatDoor
namespace Go.Proofs.YtigmkgampfbflaaGreatDoor
open Go Go.AE Go.DE Go.RowKit
noncomputable def asD (E:Env Unit):Nat->Code->LoopD Unit
 | p,.cond c a _=>fun τ σ k=>match evalDT E.gl τ c with
  | .v (.bool t)=>bif holds (t=true) then execD Tryz.prog E a (2*p) τ σ k else none
  | _=>none
 | _,_=>fun _ _ _=>none
noncomputable def fqC (Q:Int->ByteArray->ByteArray->ByteArray->Prop) (n:Nat) (e:DC):ConF:=fun args k=>match args with
 | [.agg [.v (.int .i64 v),.v (.string p),.v (.string s)],.v (.string c)]=>bif holds (Q v p s c) then k (seqR n e) else none
 | _=>none
noncomputable def ozC (Q:List DV->Prop) (y:Tm):ConF:=fun args k=>match args with
 | [.agg l]=>bif holds (Q l) then k (fun _=>(.agg y.cells,[])) else none
 | _=>none
noncomputable abbrev e184 (Q:Int->Int->Int->Int->Int->Int->Int->Int->Prop) (R:Int->Int->Int):InE:=⟨184,Tryz.f184,envG Tryz.prog gl0 [] [] [(140,bsC),(249,toC Q R)] noLp 0⟩
noncomputable abbrev e143 (Q:Int->Int->Int->Int->Int->Int->Int->Int->Prop) (R:Int->Int->Int):InE:=⟨143,Tryz.f143,envG Tryz.prog gl0 [] [e184 Q R] [(183,msC),(186,alC),(185,ctC)] noLp 0⟩
noncomputable abbrev e197 (Q:Int->Int->Int->Int->Int->Int->Int->Int->Prop) (R:Int->Int->Int):InE:=⟨197,Tryz.f197,envG Tryz.prog gl0 [] [e184 Q R] [(192,atC)] noLp 0⟩
noncomputable abbrev E220 (Q:Int->Prop) (S:Nat->ByteArray):Env Unit:=envG Tryz.prog gl0 [] [] [(253,itC Q S)] noLp 0
noncomputable abbrev e220 (Q:Int->Prop) (S:Nat->ByteArray):InE:=⟨220,Tryz.f220,envG Tryz.prog gl0 [] [] [(253,itC Q S)] (lpOf [(15,asD (E220 Q S) 15 (pieceOf Tryz.f220 15))]) 0⟩
noncomputable abbrev e194 (Q:Int->Prop) (S:Nat->ByteArray):InE:=⟨194,Tryz.f194,envG Tryz.prog gl0 [] [e220 Q S] [(192,atC)] noLp 0⟩
noncomputable abbrev E85 (hs:List InE):Env Unit:=envG Tryz.prog gl0 [] hs [] noLp 2
noncomputable abbrev e85 (hs:List InE):InE:=⟨85,Tryz.f85,envG Tryz.prog gl0 [] hs [] (lpOf [(3839,efS (E85 hs))]) 2⟩
noncomputable abbrev e37q (hs:List InE) (Q4:List DV->Prop):InE:=⟨37,Tryz.f37,envG Tryz.prog gl0 [] [e85 hs] [(80,vkC Q4)] noLp 0⟩
theorem w1_tree (x y:Tm) (QO Q3 Q4:List DV->Prop) (QF:Int->ByteArray->ByteArray->ByteArray->Prop) (Q:Int->Int->Int->Int->Int->Int->Int->Int->Prop) (R:Int->Int->Int) (K:DV->Option Unit):bodyD Tryz.prog (envG Tryz.prog gl0 [] [e37q [e143 Q R,e197 Q R] Q4] [(35,ozC QO y),(11,tcC Q3),(36,fqC QF 2 (.lst (qsA.map Seq.ev)))] noLp 3) Tryz.f14 [.agg x.cells,sv sqA] [] (fun d _=>K d) =
  bif holds (QO x.cells) then bif decide (0<y.gn) then bif holds (Q3 x.cells) then bif holds (QF (x.I 37) (x.S 38) (x.S 39) sqA) then bif holds (Q4 [iv 4,kv .i32 0,kv .u8 108,kv .u8 63,sv ⟨#[]⟩,.sl false (DC.get (Seq.c { p:=63,cd:=108,l:=[6] })) 1 1,sv ⟨#[]⟩])
  then bif holds (Q (y.I 6) (y.I 7) 1 1 (y.I 0) (y.I 1) (y.I 33) (y.I 34)) then bif holds (Q4 [iv 4,kv .i32 0,kv .u8 72,kv .u8 0,sv ⟨#[]⟩,.sl false (DC.get (Seq.c { p:=0,cd:=72,l:=[2,3] })) 1 2,sv ⟨#[]⟩])
  then bif holds (Q (R 1 (y.I 1)) (R 1 (y.I 0)) 2 3 (y.I 0) (y.I 1) (y.I 33) (y.I 34)) then K (.agg [iv (y.I 0),iv (y.I 1),.sl false (rowsD y.gT y.gR) 1 y.gn,iv (y.I 3),iv (y.I 4),.sl false (rowsD y.oT y.oR) 1 y.on,iv (R 2 (y.I 1)),iv (R 3 (y.I 0)),bv false,iv (y.I 9),iv (y.I 10),bv (y.B 11),iv (y.I 12),iv (y.I 13),iv (y.I 14),bv (y.B 15),kv .u8 ((y.I 16)),kv .u8 ((y.I 17)),iv (y.I 18),iv (y.I 19),iv (y.I 20),iv (y.I 21),bv (y.B 22),bv (y.B 23),bv (y.B 24),bv ((108:Int)==104),bv (y.B 26),bv (y.B 27),bv (y.B 28),bv (y.B 29),kv .u8 ((y.I 30)),kv .u8 ((y.I 31)),iv (y.I 32),iv (y.I 33),iv (y.I 34),.sl false (tabsD y.tb) 1 y.tn,.sl false (rowsD y.bT y.bR) 1 y.bn,iv 0,sv ⟨#[]⟩,sv ⟨#[]⟩,sv (y.S 40),sv (y.S 41)])
  else none else none else none else none else none else none else none else none:=by
 kernel_rfl
end Go.Proofs.YtigmkgampfbflaaGreatDoor
namespace Go.Proofs.YtigmkgampfbflaaGreatDoor
open Go Go.AE Go.DE Go.RowKit
end Go.Proofs.YtigmkgampfbflaaGreatDoor
namespace Go.Proofs.YtigmkgampfbflaaGreatDoor
open Go Go.AE Go.DE Go.RowKit
def prnQ (b:Int):Prop:=32<=b/\b<127
def encOk (n:Nat):Bool:=decide (ccF (Utf8.encode ((n:Int)+32))=0)&&(decide (cdF (Utf8.encode ((n:Int)+32))=1)&&((Utf8.encode ((n:Int)+32)).data.toList==[UInt8.ofNat (n+32)]))
set_option maxRecDepth 100000 in
theorem enc_all:(List.range 95).all encOk=true:=by kernel_rfl
theorem enc_of {b:Int}(h:prnQ b):encOk (b-32).toNat=true:=List.all_eq_true.1 enc_all _ (List.mem_range.2 (by obtain ⟨h1,h2⟩:=h; omega))
theorem enc_list {b:Int}(h:prnQ b):(Utf8.encode b).data.toList=[UInt8.ofNat b.toNat]:=by
 have e:=enc_of h;unfold encOk at e;obtain ⟨h1,h2⟩:=h
 rw [show (((b-32).toNat:Nat):Int)+32=b by omega,show (b-32).toNat+32=b.toNat by omega] at e
 simp only [Bool.and_eq_true,decide_eq_true_eq,beq_iff_eq] at e;exact e.2.2
theorem enc_one {b:Int}(h:prnQ b):oneC (Utf8.encode b):=by
 have e:=enc_of h;have hl:=enc_list h;unfold encOk at e;obtain ⟨h1,h2⟩:=h
 rw [show (((b-32).toNat:Nat):Int)+32=b by omega] at e
 simp only [Bool.and_eq_true,decide_eq_true_eq] at e;refine ⟨?_,e.1,e.2.1⟩
 have:(Utf8.encode b).size=1:=by
  show (Utf8.encode b).data.size=1;rw [<- Array.length_toList,hl];rfl
 omega
def gRow (w:Nat) (r:Row):Prop:=r.n=w/\∀ i,i<w->r.wd i=1/\oneC (r.tx i)
theorem gRow.p7 {w:Nat}{r:Row}(h:gRow w r):∀ (m i:Nat),p7 ccF cdF r m i=0
 | 0,_=>rfl
 | m+1,i=>by
  rw [p7.eq_def]
  dsimp only
  by_cases hi:i<r.n
  ·rw [if_pos hi];obtain ⟨h1,h2,h3,h4⟩:=h.2 i (h.1 ▸ hi);unfold p7s;rw [h1,h3,h4];exact h.p7 m (i+1)
  ·rw [if_neg hi]
theorem gRow.rowF {w:Nat}{r:Row}(h:gRow w r) (h1:1<=w) (h2:w<=132):rowF r=0:=by
 unfold Go.Proofs.YtigmkgampfbflaaGreatDoor.rowF;have e:=h.1
 rw [decide_eq_false (by omega),decide_eq_false (by omega)]
 exact h.p7 _ _
theorem gRow.sized {w:Nat}{r:Row}(h:gRow w r) (h2:w<=132):r.sized:=⟨by have:=h.1; omega,fun i hi=>(h.2 i (h.1 ▸ hi)).2.1⟩
theorem gRow.put {w:Nat}{r:Row}(h:gRow w r) {c:Nat}{s:ByteArray}(hs:oneC s) (fo ba fl:Int):gRow w (putR r c s fo ba fl):=⟨h.1,fun i hi=>by
 obtain ⟨h1,h2⟩:=h.2 i hi
 show (if i=c then 1 else r.wd i)=1/\oneC (if i=c then s else r.tx i)
 by_cases e:i=c
 ·rw [if_pos e,if_pos e]; exact ⟨rfl,hs⟩
 ·rw [if_neg e,if_neg e]; exact ⟨h1,h2⟩⟩
structure TS where
 R:Nat->Row
 r:Nat
 c:Nat
 p:Bool
def TS.row (x:TS):Nat:=bif x.p then x.r+1 else x.r
def TS.col (x:TS):Nat:=bif x.p then 0 else x.c
def stepT (w:Nat) (x:TS) (b:Int):TS :=
 ⟨fun j=>if j=x.row then putR (x.R x.row) x.col (Utf8.encode b) (-1) (-1) 0 else x.R j,x.row,if x.col+1=w then x.col else x.col+1,decide (x.col+1=w)⟩
def runT (w:Nat) (z:Nat->Int):Nat->TS->TS
 | 0,x=>x
 | i+1,x=>stepT w (runT w z i x) (z i)
structure TSok (w h:Nat) (x:TS):Prop where
 w1:1<=w
 w2:w<=30
 h1:1<=h
 h2:h<=30
 g:∀ j,j<h->gRow w (x.R j)
 r:x.r<h
 c:x.c<w
 q:x.p=true->x.c+1=w
def fits (h:Nat) (x:TS):Prop:=x.row<h
theorem TSok.col {w h:Nat}{x:TS}(k:TSok w h x):x.col<w:=by
 unfold TS.col
 cases x.p with
 | true=>exact k.w1
 | false=>exact k.c
theorem TSok.step {w h:Nat}{x:TS}(k:TSok w h x) (f:fits h x) {b:Int}(hb:prnQ b):TSok w h (stepT w x b):=by
 have hc:=k.col
 refine ⟨k.w1,k.w2,k.h1,k.h2,fun j hj=>?_,f,?_,fun e=>?_⟩
 ·show gRow w (if j=x.row then _ else _)
  by_cases e:j=x.row
  ·rw [if_pos e];exact (k.g _ f).put (enc_one hb) _ _ _
  ·rw [if_neg e];exact k.g j hj
 ·show (if x.col+1=w then x.col else x.col+1)<w
  split<;>omega
 ·have e:x.col+1=w:=of_decide_eq_true e
  show (if x.col+1=w then x.col else x.col+1)+1=w
  rw [if_pos e];exact e
theorem TSok.run {w h:Nat}{x:TS}(k:TSok w h x) {z:Nat->Int}:∀ {n:Nat},(∀ i,i<n->prnQ (z i))->(∀ i,i<n->fits h (runT w z i x))->TSok w h (runT w z n x)
 | 0,_,_=>k
 | n+1,hz,hf=>(k.run (n:=n) (fun i hi=>hz i (by omega)) fun i hi=>hf i (by omega)).step (hf n (by omega)) (hz n (by omega))
def TS.same (w h:Nat) (x y:TS):Prop:=x.r=y.r/\x.c=y.c/\x.p=y.p/\∀ j,j<h->(x.R j).n=(y.R j).n/\∀ k,k<w->(x.R j).tx k=(y.R j).tx k/\(x.R j).wd k=(y.R j).wd k/\(x.R j).fo k=(y.R j).fo k/\(x.R j).ba k=(y.R j).ba k/\(x.R j).fl k=(y.R j).fl k
end Go.Proofs.YtigmkgampfbflaaGreatDoor
namespace Go.Proofs.YtigmkgampfbflaaGreatDoor
open Go Go.AE Go.DE Go.RowKit
def finT (w:Nat) (z:Nat->Int):Nat->Nat->TS->TS
 | 0,_,x=>x
 | m+1,i,x=>finT w z m (i+1) (stepT w x (z i))
structure WPX where
 w:Nat
 h:Nat
 n:Nat
 T:Nat->Bool
 B:DV
 O:Nat->Row
 z:Nat->Int
 i:Nat
 x:TS
def WPX.f (y:WPX):TS:=finT y.w y.z (y.n-y.i) y.i y.x
def zb1:DBlk:=⟨42,.lst [zeroL]⟩
structure WPX.ok (y:WPX):Prop where
 i:y.i<=y.n
 n:y.n<=9000000
 b:Clo y.B
 t:TSok y.w y.h y.x
 z:∀ j,j<y.n->prnQ (y.z j)
 f:∀ m,y.i+m<y.n->fits y.h (finT y.w y.z m y.i y.x)
theorem zb1_kb:KB zb1:=.lst (fun d hd=>by
 simp only [zeroL,List.mem_cons,List.not_mem_nil,or_false] at hd
 rcases hd with rfl | rfl | rfl | rfl | rfl | rfl | rfl | rfl | rfl | rfl | rfl | rfl | rfl | rfl | rfl | rfl | rfl | rfl | rfl | rfl | rfl | rfl | rfl | rfl | rfl | rfl | rfl | rfl | rfl | rfl | rfl | rfl | rfl | rfl | rfl | rfl | rfl | rfl | rfl | rfl | rfl | rfl<;>exact .v _) (Nat.le_refl _)
end Go.Proofs.YtigmkgampfbflaaGreatDoor
