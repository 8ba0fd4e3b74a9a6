/-
 Closed runs in the kernel: regions whose order is open,code,functions.
 Conditions: see the theorems.
-/
import Derived.Test.YtigmkgampfbflaaGreatDoorAeFast2
import Derived.Lib.ItoaNum
import Derived.Lib.Join
import Derived.Lib.Fields
import Derived.Lib.Case
namespace Go.AE
open Go Go.RowKit
section
variable {P:Program}{st:AE.Stat}{α:Type}{r:α}{m:Nat}{t:TE}{τ:Array Value}{h:TH}{n:Nat}{σ:Heap}
noncomputable def wantF (ops:Array Oper) (o:Oper) (m:Nat) (t:TE):Bool :=
 match o.guard with
 | none=>true
 | some (j,want)=>match (ops[j]?).bind (·.dst) with
  | none=>false
  | some d=>match getT m t d with
   | some (.bool b)=>b==want
   | _=>false
theorem wantF_eq (hE:ERel m t τ) (ops:Array Oper) (o:Oper):wantF ops o m t=Region.wanted o (yielded ops τ):=by
 unfold wantF Region.wanted yielded
 cases o.guard with
 | none=>rfl
 | some p =>
  obtain ⟨j,want⟩:=p
  cases hd:(ops[j]?).bind (·.dst) with
  | none=>simp [hd]
  | some d =>
   simp only [hd,getT_eq hE,Option.bind_some]
   cases τ[d]? with
   | none=>rfl
   | some v =>
    cases v
    case bool b=>cases b<;>cases want<;>rfl
    all_goals rfl
noncomputable def loadAtF (P:Program) (st:AE.Stat) (m:Nat) (t:TE) (o:Oper) (h:TH):Option Value :=
 match o.op with
 | .load ty a=>match evF m t a with
  | .pointer (some a)=>loadVG P st h.get ty a
  | _=>none
 | _=>none
theorem loadAtF_eq (hE:ERel m t τ) (hH:HRel h n σ) (o:Oper):loadAtF P st m t o h=loadAtA P st τ o σ:=by
 unfold loadAtF loadAtA;rw [evF_eq hE,show h.get=hp σ from funext hH.2];cases o.op
 case load ty a =>
  simp only;cases evalT τ a
  case pointer a =>
   cases a with
   | none=>rfl
   | some a=>exact loadVG_eq
  all_goals rfl
 all_goals rfl
noncomputable def blkF (x y:Option Blk):Bool :=
 match x,y with
 | some (.cells a),some (.cells b)=>a.length==b.length&&(a.zip b).all (fun p=>veq p.1 p.2)
 | some (.map []),some (.map [])=>true
 | _,_=>false
theorem blkF_eq {σj σk:Heap}{i:Nat}(h:blkF (hp σj i) (hp σk i)=true):blkEq σj[i]? σk[i]?=true:=by
 unfold blkF at h
 split at h<;>first | (cases h; done) | skip
 ·rename_i a b e1 e2;rw [join_cells.1 e1,join_cells.1 e2];exact h
 ·rename_i e1 e2;rw [join_cells.1 e1,join_cells.1 e2];rfl
def weakP (ops:Array Oper):List ((Oper×Nat)×(Oper×Nat)) :=
 let c:=closeA ops.toList []
 ops.toList.zipIdx.flatMap fun x=>ops.toList.zipIdx.filterMap fun y =>
  if (cls x.1.op==1||cls x.1.op==2)&&cls y.1.op==3&&!ordA c x.2 y.2&&!ordA c y.2 x.2 then some (x,y) else none
theorem weakP_mem {ops:Array Oper}{x y:Oper×Nat}(hx:x∈ops.toList.zipIdx) (hy:y∈ops.toList.zipIdx)
  (h:((cls x.1.op==1||cls x.1.op==2)&&cls y.1.op==3&&!ordA (closeA ops.toList []) x.2 y.2&&!ordA (closeA ops.toList []) y.2 x.2)=true):(x,y)∈weakP ops:=by
 unfold weakP;simp only [List.mem_flatMap,List.mem_filterMap]
 exact ⟨x,hx,y,hy,by rw [if_pos h]⟩
abbrev StF:=TE×TH×Nat
noncomputable def dynF (P:Program) (st:AE.Stat) (ops:Array Oper) (m:Nat) (tr:List StF):Bool :=
 (weakP ops).all fun p=>match tr[p.1.2]?,tr[p.2.2]?,tr[p.2.2+1]? with
  | some (ti,_,ni),some (tj,hj,_),some (_,hk,_) =>
   bif wantF ops p.1.1 m ti&&wantF ops p.2.1 m tj then
    (bif cls p.1.1.op==1 then vEqO (loadAtF P st m ti p.1.1 hj) (loadAtF P st m ti p.1.1 hk) else bif decide (p.1.2<p.2.2) then blkF (hj.get ni) (hk.get ni) else true)
   else true
  | _,_,_=>false
def TRel (m:Nat) (trF:List StF) (tr:List (Array Value×Heap)):Prop :=
 trF.length=tr.length/\∀ (i:Nat) x y,trF[i]?=some x->tr[i]?=some y->ERel m x.1 y.1/\HRel x.2.1 x.2.2 y.2
theorem TRel.get {trF:List StF}{tr:List (Array Value×Heap)}(h:TRel m trF tr) {i:Nat}{x:StF}(hx:trF[i]?=some x):∃ y,tr[i]?=some y/\ERel m x.1 y.1/\HRel x.2.1 x.2.2 y.2:=by
 have hi:i<tr.length:=h.1 ▸ (List.getElem?_eq_some_iff.1 hx).1;exact ⟨_,List.getElem?_eq_getElem hi,h.2 i x _ hx (List.getElem?_eq_getElem hi)⟩
theorem dynF_ok {ops:Array Oper}{trF:List StF}{tr:List (Array Value×Heap)}(hT:TRel m trF tr) (hl:tr.length=ops.size+1) (h:dynF P st ops m trF=true):dynOk P st ops tr=true:=by
 unfold dynOk;simp only [List.all_eq_true]
 rintro ⟨x,i⟩ hx
 have hi:i<ops.size:=by
  have:=List.snd_lt_of_mem_zipIdx hx
  simpa using this
 have hti:tr[i]?=some tr[i]:=List.getElem?_eq_getElem (by omega)
 simp only [hti];split
 ·rename_i hc;simp only [List.all_eq_true]
  rintro ⟨y,j⟩ hy
  have hj:j<ops.size:=by
   have:=List.snd_lt_of_mem_zipIdx hy
   simpa using this
  have htj:tr[j]?=some tr[j]:=List.getElem?_eq_getElem (by omega)
  have htk:tr[j+1]?=some tr[j+1]:=List.getElem?_eq_getElem (by omega)
  simp only [htj,htk];split
  ·rename_i hd;simp only [Bool.and_eq_true] at hc hd
   have hm:=weakP_mem hx hy (by simp only [Bool.and_eq_true]; exact ⟨⟨⟨hc.1,hd.1.1.1⟩,hd.1.2⟩,hd.2⟩)
   have:=List.all_eq_true.1 h _ hm;simp only at this
   split at this<;>first | (cases this; done) | skip
   rename_i ti _ ni tj hj' _ _ hk' _ q1 q2 q3;obtain ⟨yi,e1,r1,r2⟩:=hT.get q1;obtain ⟨yj,e2,r3,r4⟩:=hT.get q2;obtain ⟨yk,e3,r5,r6⟩:=hT.get q3;rw [hti] at e1;rw [htj] at e2;rw [htk] at e3;obtain rfl:=Option.some.inj e1;obtain rfl:=Option.some.inj e2;obtain rfl:=Option.some.inj e3;rw [wantF_eq r1,wantF_eq r3,hc.2,hd.1.1.2] at this;simp only [Bool.and_self,cond_true] at this;split
   ·rename_i h1;rw [h1] at this;simp only [cond_true] at this;rw [loadAtF_eq r1 r4,loadAtF_eq r1 r6] at this;rw [this];simp
   ·rename_i h1
    have h1:(cls x.op==1)=false:=by simpa using h1
    rw [h1] at this;simp only [cond_false] at this;split
    ·rename_i hij;rw [decide_eq_true hij] at this;simp only [cond_true] at this;rw [r4.2,r6.2] at this;have e:List.length tr[i].2=ni:=r2.1;rw [e];exact blkF_eq this
    ·rfl
  ·rfl
 ·rfl
noncomputable def traceF (P:Program) (st:AE.Stat) (cf:CallF' α) (ops:Array Oper) (m:Nat) (l:List Oper):TE->TH->Nat->List StF->(List StF->TE->TH->Nat->Option α)->Option α :=
 List.rec (fun t h n acc k=>k ((t,h,n) :: acc) t h n) (fun o _ ih t h n acc k=>stepF P st cf ops o m t h n fun t' h' n'=>ih t' h' n' ((t,h,n) :: acc) k) l
theorem traceF_some {call:CallA}{cf:CallF' α}{ops:Array Oper}(hc:CallR call cf):∀ {l:List Oper}{t:TE}{τ:Array Value}{h:TH}{n:Nat}{σ:Heap}{acc:List StF}{k:List StF->TE->TH->Nat->Option α},ERel m t τ->HRel h n σ->traceF P st cf ops m l t h n acc k=some r ->
  ∃ trF tr τ' σ' t' h' n',traceA P st call ops l τ σ=some tr/\TRel m trF tr/\tr.length=l.length+1/\tr.getLast?=some (τ',σ')/\ERel m t' τ'/\HRel h' n' σ'/\k (trF.reverse++acc) t' h' n'=some r
 | [],t,τ,h,n,σ,acc,k,hE,hH,hx=>by
  refine ⟨[(t,h,n)],[(τ,σ)],τ,σ,t,h,n,rfl,⟨rfl,fun i x y hi hj=>?_⟩,rfl,rfl,hE,hH,hx⟩
  cases i with
  | zero =>
   simp only [List.getElem?_cons_zero,Option.some.injEq] at hi hj
   subst hi; subst hj
   exact ⟨hE,hH⟩
  | succ i=>simp at hi
 | o :: l,t,τ,h,n,σ,acc,k,hE,hH,hx=>by
  obtain ⟨τ1,σ1,t1,h1,n1,q1,q2,q3,hx⟩:=stepF_some (k:=fun t' h' n'=>traceF P st cf ops m l t' h' n' ((t,h,n) :: acc) k) hc hE hH hx
  obtain ⟨trF,tr,τ2,σ2,t2,h2,n2,p1,p2,p3,p4,p5,p6,hx⟩:=traceF_some hc q2 q3 hx
  refine ⟨(t,h,n) :: trF,(τ,σ) :: tr,τ2,σ2,t2,h2,n2,by simp only [traceA,q1,p1]; rfl,⟨by simp [p2.1],fun i x y hi hj=>?_⟩,by simp [p3],?_,p5,p6,?_⟩
  ·cases i with
   | zero =>
    simp only [List.getElem?_cons_zero,Option.some.injEq] at hi hj
    subst hi; subst hj
    exact ⟨hE,hH⟩
   | succ i=>exact p2.2 i x y (by simpa using hi) (by simpa using hj)
  ·rw [List.getLast?_cons,p4]; rfl
  ·simpa using hx
noncomputable def drawF (P:Program) (st:AE.Stat) (cf:CallF' α) (ops:Array Oper) (m:Nat) (t:TE) (h:TH) (n:Nat) (k:TE->TH->Nat->Option α):Option α :=
 bif staticP P ops then traceF P st cf ops m ops.toList t h n [] fun acc t h n=>bif dynF P st ops m acc.reverse then k t h n else none else none
theorem drawF_some {call:CallA}{cf:CallF' α}{ops:Array Oper}{k:TE->TH->Nat->Option α}(hc:CallR call cf) (hE:ERel m t τ) (hH:HRel h n σ) (hx:drawF P st cf ops m t h n k=some r) :
  ∃ τ' σ' t' h' n',drawA P st call ops τ σ=some (τ',σ')/\ERel m t' τ'/\HRel h' n' σ'/\k t' h' n'=some r:=by
 unfold drawF at hx;unfold drawA
 cases hs:staticP P ops with
 | false=>rw [hs] at hx; cases hx
 | true =>
  rw [hs] at hx;simp only [cond_true] at hx;obtain ⟨trF,tr,τ2,σ2,t2,h2,n2,p1,p2,p3,p4,p5,p6,hx⟩:=traceF_some hc hE hH hx;simp only [List.append_nil,List.reverse_reverse] at hx
  cases hd:dynF P st ops m trF with
  | false=>rw [hd] at hx; cases hx
  | true =>
   rw [hd] at hx;refine ⟨τ2,σ2,t2,h2,n2,?_,p5,p6,hx⟩
   have:dynB P st ops tr=true:=by
    unfold dynB
    rw [dynF_ok p2 (by simpa using p3) hd]
    rfl
   simp only [if_true,p1,this,p4]
abbrev KF (α:Type):=Ex->TE->TH->Nat->Option α
noncomputable def iterF (f:TE->TH->Nat->KF α->Option α) (q:Nat):TE->TH->Nat->KF α->Option α :=
 Nat.rec (fun _ _ _ _=>none) (fun _ ih t h n k=>f t h n fun e t h n=>match e with
  | .normal=>ih t h n k
  | .exit i=>k (.exit i) t h n
  | .ret=>k .ret t h n) q
noncomputable def arrF (m:Nat) (t:TE):List Value:=Nat.rec (fun acc=>acc) (fun d ih acc=>ih ((t.get d).getD undef :: acc)) m []
theorem arrF_eq (hE:ERel m t τ):arrF m t=τ.toList:=by
 have key:∀ (j:Nat) (acc:List Value),j<=m->(Nat.rec (motive:=fun _=>List Value->List Value) (fun acc=>acc) (fun d ih acc=>ih ((t.get d).getD undef :: acc)) j acc)=τ.toList.take j++acc:=by
  intro j
  induction j with
  | zero=>intro acc _; rfl
  | succ j ih =>
   intro acc hj;have hs:=hE.1
   have hlt:j<τ.toList.length:=by simp; omega
   show (Nat.rec (motive:=fun _=>List Value->List Value) (fun acc=>acc) (fun d ih acc=>ih ((t.get d).getD undef :: acc)) j ((t.get j).getD undef :: acc))=_
   rw [ih _ (by omega),hE.2 j (by omega),List.take_succ_eq_append_getElem hlt]
   simp [Array.getD_eq_getD_getElem?,Array.getElem?_eq_getElem (show j<τ.size by omega)]
 have:=key m [] (Nat.le_refl m)
 rw [List.append_nil,List.take_of_length_le (by simp [hE.1])] at this
 exact this
noncomputable def evGF (m:Nat) (t:TE):Operand->Value
 | .tmp d=>(getT m t d).getD undef
 | .func f=>.func (.func f) #[] #[]
 | _=>undef
theorem evGF_eq (hE:ERel m t τ) (g:Operand):evGF m t g=evalG τ g:=by
 cases g<;>simp [evGF,evalG,getT_eq hE,Array.getD_eq_getD_getElem?]
noncomputable def endLoopG (H:HF) (l:Nat):Option (Option Code×Blk) :=
 match H l with
 | some (.loop τ ps asg body s p)=>match s with
  | .busy=>none
  | _=>some (p,.loop τ ps asg body .exhausted p)
 | _=>none
theorem endLoopG_some {l:Nat}{p:Option Code}{b:Blk}(hx:endLoopG (hp σ) l=some (p,b)):endLoopA σ l=some (p,σ.set l (some b)):=by
 unfold endLoopG at hx
 split at hx<;>first | (cases hx; done) | skip
 rename_i τ ps asg body s p' hl;have e:σ[l]?=some (some (.loop τ ps asg body s p')):=Option.join_eq_some_iff.1 hl;unfold endLoopA;rw [e]
 cases s<;>first | (cases hx; done) | skip
 all_goals
  simp only [Option.some.injEq,Prod.mk.injEq] at hx;obtain ⟨rfl,rfl⟩:=hx;rfl
noncomputable def beginG (H:HF) (l:Nat):Option Blk :=
 match H l with
 | some (.loop τ ps asg body .ready p)=>some (.loop τ ps asg body .busy p)
 | _=>none
theorem beginG_some {l:Nat}{b:Blk}(hx:beginG (hp σ) l=some b):beginA σ l=some (σ.set l (some b)):=by
 unfold beginG at hx
 split at hx<;>first | (cases hx; done) | skip
 rename_i τ ps asg body p' hl;have e:σ[l]?=some (some (.loop τ ps asg body .ready p')):=Option.join_eq_some_iff.1 hl;unfold beginA;rw [e];obtain rfl:=Option.some.inj hx;rfl
noncomputable def endG (H:HF) (l:Nat) (p:Option Code):Option (Value×Blk) :=
 match H l with
 | some (.loop τ ps asg body _ _)=>match p with
  | none=>some (.bool true,.loop τ ps asg body .ready none)
  | some c=>some (.bool false,.loop τ ps asg body .done (some c))
 | _=>none
theorem endG_some {l:Nat}{p:Option Code}{v:Value}{b:Blk}(hx:endG (hp σ) l p=some (v,b)):endA σ l p=some (v,σ.set l (some b)):=by
 unfold endG at hx
 split at hx<;>first | (cases hx; done) | skip
 rename_i τ ps asg body s p' hl;have e:σ[l]?=some (some (.loop τ ps asg body s p')):=Option.join_eq_some_iff.1 hl;unfold endA;rw [e];cases p
 all_goals
  simp only [Option.some.injEq,Prod.mk.injEq] at hx;obtain ⟨rfl,rfl⟩:=hx;rfl
noncomputable def jumpF (t:TE) (h:TH) (n:Nat) (k:KF α):Option Code->Option α
 | none=>k .normal t h n
 | some .ret=>k .ret t h n
 | some (.exit id)=>k (.exit id) t h n
 | _=>none
noncomputable def execF (P:Program) (st:AE.Stat) (cf:CallF' α) (q m:Nat):Code->TE->TH->Nat->KF α->Option α
 | .skip=>fun t h n k=>k .normal t h n
 | .label _=>fun t h n k=>k .normal t h n
 | .region _ ops draw=>fun t h n k=>match draw with
  | true=>drawF P st cf ops m t h n fun t h n=>k .normal t h n
  | false=>runLF P st cf ops m ops.toList t h n fun t h n=>k .normal t h n
 | .seq a b=>fun t h n k=>execF P st cf q m a t h n fun e t h n=>match e with
  | .normal=>execF P st cf q m b t h n k
  | .exit i=>k (.exit i) t h n
  | .ret=>k .ret t h n
 | .cond c a b=>fun t h n k=>match evF m t c with
  | .bool b'=>match b' with
   | true=>execF P st cf q m a t h n k
   | false=>execF P st cf q m b t h n k
  | _=>none
 | .block id a=>fun t h n k=>execF P st cf q m a t h n fun e t h n=>match e with
  | .normal=>k .normal t h n
  | .exit j=>match Nat.beq j id with
   | true=>k .normal t h n
   | false=>k (.exit j) t h n
  | .ret=>k .ret t h n
 | .loop a=>fun t h n k=>iterF (execF P st cf q m a) q t h n k
 | .scope a=>fun t h n k=>execF P st cf q m a t h n k
 | .exit id=>fun t h n k=>k (.exit id) t h n
 | .ret=>fun t h n k=>k .ret t h n
 | .rangeFunc g ps asg body=>fun t h n k=>match evGF m t g with
  | .func (.func f) first captured=>bif entersA P f then edF (.push (.loop ⟨arrF m t⟩ ps asg body .ready none)) h n fun h n'=>fL fV ((first++#[Value.chan (some n)])++captured).toList fun args =>
    cf f args h n' fun _ h n'=>match endLoopG h.get n with
     | some (p,b)=>edF (.set n b) h n' fun h n'=>jumpF t h n' k p
     | none=>none
   else none
  | _=>none
 | _=>fun _ _ _ _=>none
theorem iterF_some {f:TE->TH->Nat->KF α->Option α}{g:Array Value->Heap->Out}
  (hf:∀ {t τ h n σ} {k:KF α},ERel m t τ->HRel h n σ->f t h n k=some r->∃ e τ' σ' t' h' n',g τ σ=some (e,τ',σ')/\ERel m t' τ'/\HRel h' n' σ'/\k e t' h' n'=some r) :
  ∀ {q:Nat}{t τ h n σ} {k:KF α},ERel m t τ->HRel h n σ->iterF f q t h n k=some r->∃ e τ' σ' t' h' n',iterA g q τ σ=some (e,τ',σ')/\ERel m t' τ'/\HRel h' n' σ'/\k e t' h' n'=some r
 | 0,t,τ,h,n,σ,k,hE,hH,hx=>by cases hx
 | q+1,t,τ,h,n,σ,k,hE,hH,hx=>by
  obtain ⟨e,τ1,σ1,t1,h1,n1,q1,q2,q3,hx⟩:=hf (k:=fun e t h n=>match e with
   | .normal=>iterF f q t h n k
   | .exit i=>k (.exit i) t h n
   | .ret=>k .ret t h n) hE hH hx
  cases e with
  | normal =>
   obtain ⟨e,τ2,σ2,t2,h2,n2,p1,p2,p3,hx⟩:=iterF_some hf q2 q3 hx
   exact ⟨e,τ2,σ2,t2,h2,n2,by simp only [iterA,q1]; exact p1,p2,p3,hx⟩
  | exit i=>exact ⟨_,τ1,σ1,t1,h1,n1,by simp only [iterA,q1],q2,q3,hx⟩
  | ret=>exact ⟨_,τ1,σ1,t1,h1,n1,by simp only [iterA,q1],q2,q3,hx⟩
theorem execF_some {call:CallA}{cf:CallF' α}{q:Nat}(hc:CallR call cf):∀ (c:Code) {t τ h n σ} {k:KF α},ERel m t τ->HRel h n σ->execF P st cf q m c t h n k=some r ->
  ∃ e τ' σ' t' h' n',execA P st call q c τ σ=some (e,τ',σ')/\ERel m t' τ'/\HRel h' n' σ'/\k e t' h' n'=some r:=by
 intro c
 induction c with
 | skip=>intro t τ h n σ k hE hH hx; exact ⟨_,τ,σ,t,h,n,rfl,hE,hH,hx⟩
 | label l=>intro t τ h n σ k hE hH hx; exact ⟨_,τ,σ,t,h,n,rfl,hE,hH,hx⟩
 | exit id=>intro t τ h n σ k hE hH hx; exact ⟨_,τ,σ,t,h,n,rfl,hE,hH,hx⟩
 | ret=>intro t τ h n σ k hE hH hx; exact ⟨_,τ,σ,t,h,n,rfl,hE,hH,hx⟩
 | rangeFunc g ps asg body _ _ =>
  intro t τ h n σ k hE hH hx;simp only [execF,evGF_eq hE] at hx;simp only [execA]
  split at hx<;>first | (cases hx; done) | skip
  rename_i f first captured hg;rw [hg];simp only
  cases he:entersA P f with
  | false=>rw [he] at hx; cases hx
  | true =>
   rw [he] at hx;simp only [cond_true] at hx;obtain ⟨h1,n1,hx,hH1⟩:=edF_some hH hx;rw [fL_eq fV_eq] at hx;obtain ⟨v,σ2,h2,n2,q1,hH2,hx⟩:=hc _ _ h1 n1 _ _ r hH1 hx
   have e1:(Ed.app σ (.push (.loop ⟨arrF m t⟩ ps asg body .ready none)))=σ++[some (.loop τ ps asg body .ready none)]:=by
    rw [arrF_eq hE];rfl
   rw [e1,<- hH.1] at q1;rw [if_pos rfl,q1];simp only;rw [show h2.get=hp σ2 from funext hH2.2] at hx
   split at hx<;>first | (cases hx; done) | skip
   rename_i p b hb;rw [<- hH.1] at hb hx;obtain ⟨h3,n3,hx,hH3⟩:=edF_some hH2 hx;rw [endLoopG_some hb];simp only;unfold jumpF at hx;unfold jumpA
   split at hx<;>first | (cases hx; done) | skip
   ·exact ⟨_,τ,_,t,h3,n3,rfl,hE,hH3,hx⟩
   ·exact ⟨_,τ,_,t,h3,n3,rfl,hE,hH3,hx⟩
   ·exact ⟨_,τ,_,t,h3,n3,rfl,hE,hH3,hx⟩
 | scope b ih=>intro t τ h n σ k hE hH hx; exact ih hE hH hx
 | goto l=>intro t τ h n σ k hE hH hx; cases hx
 | refuse y=>intro t τ h n σ k hE hH hx; cases hx
 | region id ops draw =>
  intro t τ h n σ k hE hH hx
  cases draw with
  | true =>
   obtain ⟨τ1,σ1,t1,h1,n1,q1,q2,q3,hx⟩:=drawF_some hc hE hH hx
   exact ⟨_,τ1,σ1,t1,h1,n1,by simp only [execA,if_true,q1],q2,q3,hx⟩
  | false =>
   obtain ⟨τ1,σ1,t1,h1,n1,q1,q2,q3,hx⟩:=runLF_some hc hE hH hx
   exact ⟨_,τ1,σ1,t1,h1,n1,by simp only [execA,Bool.false_eq_true,if_false,q1],q2,q3,hx⟩
 | seq a b iha ihb =>
  intro t τ h n σ k hE hH hx;obtain ⟨e,τ1,σ1,t1,h1,n1,q1,q2,q3,hx⟩:=iha hE hH hx
  cases e with
  | normal =>
   obtain ⟨e,τ2,σ2,t2,h2,n2,p1,p2,p3,hx⟩:=ihb q2 q3 hx
   exact ⟨e,τ2,σ2,t2,h2,n2,by simp only [execA,q1]; exact p1,p2,p3,hx⟩
  | exit i=>exact ⟨_,τ1,σ1,t1,h1,n1,by simp only [execA,q1],q2,q3,hx⟩
  | ret=>exact ⟨_,τ1,σ1,t1,h1,n1,by simp only [execA,q1],q2,q3,hx⟩
 | cond c a b iha ihb =>
  intro t τ h n σ k hE hH hx;simp only [execF,evF_eq hE] at hx;simp only [execA]
  split at hx<;>first | (cases hx; done) | skip
  rename_i b' hb;rw [hb]
  cases b' with
  | true=>exact iha hE hH hx
  | false=>exact ihb hE hH hx
 | block id a iha =>
  intro t τ h n σ k hE hH hx;obtain ⟨e,τ1,σ1,t1,h1,n1,q1,q2,q3,hx⟩:=iha hE hH hx
  cases e with
  | normal=>exact ⟨_,τ1,σ1,t1,h1,n1,by simp only [execA,q1],q2,q3,hx⟩
  | exit j =>
   simp only at hx
   cases hb:Nat.beq j id with
   | true =>
    rw [hb] at hx
    exact ⟨_,τ1,σ1,t1,h1,n1,by simp only [execA,q1]; rw [if_pos (Nat.eq_of_beq_eq_true hb)],q2,q3,hx⟩
   | false =>
    rw [hb] at hx
    exact ⟨_,τ1,σ1,t1,h1,n1,by simp only [execA,q1]; rw [if_neg (Nat.ne_of_beq_eq_false hb)],q2,q3,hx⟩
  | ret=>exact ⟨_,τ1,σ1,t1,h1,n1,by simp only [execA,q1],q2,q3,hx⟩
 | loop a iha =>
  intro t τ h n σ k hE hH hx
  exact iterF_some (fun hE hH hx=>iha hE hH hx) hE hH hx
noncomputable def resF (P:Program) (st:AE.Stat) (m:Nat) (t:TE) (h:TH):ResultVar->Option Value
 | .tmp d=>some ((getT m t d).getD undef)
 | .cell a ty=>match (getT m t a).getD undef with
  | .pointer (some a)=>loadVG P st h.get ty a
  | _=>none
theorem resF_eq (hE:ERel m t τ) (hH:HRel h n σ):resF P st m t h=resultA P st τ σ:=by
 funext x
 cases x with
 | tmp d=>simp only [resF,resultA,getT_eq hE,Array.getD_eq_getD_getElem?]
 | cell a ty =>
  simp only [resF,resultA,getT_eq hE,Array.getD_eq_getD_getElem?,show h.get=hp σ from funext hH.2];cases (τ[a]?).getD undef
  case pointer a =>
   cases a with
   | none=>rfl
   | some a=>exact loadVG_eq
  all_goals rfl
noncomputable def resultsF (P:Program) (st:AE.Stat) (fn:Func) (m:Nat) (t:TE) (h:TH):Option Value :=
 match fn.results.toList.mapM (resF P st m t h) with
 | some [v]=>some v
 | some vs=>some (.tuple vs.toArray)
 | none=>none
noncomputable def initF (args:List Value):Nat->TE->(TE->Option α)->Option α :=
 List.rec (fun _ t k=>k t) (fun v _ ih i t k=>t.put (some v) i fun t=>ih (Nat.succ i) t k) args
theorem initF_some:∀ {args:List Value}{i:Nat}{t:TE}{k:TE->Option α},initF args i t k=some r->∃ t',k t'=some r/\∀ j,t'.get j=if i<=j/\j<i+args.length then args[j-i]? else t.get j
 | [],i,t,k,hx=>⟨t,hx,fun j=>by rw [if_neg (by simp only [List.length_nil]; omega)]⟩
 | v :: args,i,t,k,hx=>by
  obtain ⟨t1,hx,h1⟩:=Tr.put_some (k:=fun t=>initF args (Nat.succ i) t k) hx
  obtain ⟨t2,hx,h2⟩:=initF_some hx
  refine ⟨t2,hx,fun j=>?_⟩
  rw [h2,h1]
  by_cases e:j=i
  ·subst e
   rw [if_neg (by omega),if_pos rfl,if_pos (by simp)]
   simp
  ·by_cases hj:i+1<=j/\j<i+1+args.length
   ·rw [if_pos (by omega),if_pos (by simp; omega)]
    rw [show j-i=(j-(i+1))+1 by omega]
    simp
   ·rw [if_neg (by omega),if_neg e,if_neg (by simp; omega)]
noncomputable def bodyF (P:Program) (st:AE.Stat) (cf:CallF' α) (q:Nat) (fn:Func) (args:List Value) (h:TH) (n:Nat) (k:Value->TH->Nat->Option α):Option α :=
 match fn.body with
 | none=>none
 | some c=>bif Nat.ble args.length fn.ntmps then initF args 0 .leaf fun t=>execF P st cf q fn.ntmps c t h n fun e t h n=>match e with
   | .normal=>(match resultsF P st fn fn.ntmps t h with
    | some v=>fV v fun v=>k v h n
    | none=>none)
   | .ret=>(match resultsF P st fn fn.ntmps t h with
    | some v=>fV v fun v=>k v h n
    | none=>none)
   | .exit _=>none
  else none
theorem bodyF_some {call:CallA}{cf:CallF' α}{q:Nat}{fn:Func}{args:List Value}{k:Value->TH->Nat->Option α}(hc:CallR call cf) (hH:HRel h n σ) (hx:bodyF P st cf q fn args h n k=some r) :
  ∃ v σ' h' n',bodyA P st call q fn args σ=some (v,σ')/\HRel h' n' σ'/\k v h' n'=some r:=by
 unfold bodyF at hx;unfold bodyA
 cases hb:fn.body with
 | none=>rw [hb] at hx; cases hx
 | some c =>
  rw [hb] at hx;simp only at hx ⊢
  cases hl:Nat.ble args.length fn.ntmps with
  | false=>rw [hl] at hx; cases hx
  | true =>
   rw [hl] at hx;simp only [cond_true] at hx;have hle:=Nat.le_of_ble_eq_true hl;obtain ⟨t,hx,ht⟩:=initF_some hx
   have hE:ERel fn.ntmps t (args.toArray++Array.replicate (fn.ntmps-args.length) undef):=by
    refine ⟨by simp; omega,fun d hd=>?_⟩
    rw [ht,Array.getD_eq_getD_getElem?]
    by_cases hda:d<args.length
    ·rw [if_pos (by omega),Array.getElem?_append_left (by simpa using hda)]
     simp
    ·rw [if_neg (by omega),Array.getElem?_append_right (by simpa using hda)]
     rw [Array.getElem?_replicate,if_pos (by simp; omega)]
     rfl
   obtain ⟨e,τ1,σ1,t1,h1,n1,q1,q2,q3,hx⟩:=execF_some hc c hE hH hx
   have hr:∀ v,resultsF P st fn fn.ntmps t1 h1=some v->resultsA P st fn τ1 σ1=some v:=by
    intro v hv;unfold resultsF at hv;rw [resF_eq q2 q3] at hv;exact hv
   simp only [q1]
   cases e with
   | normal =>
    simp only at hx ⊢
    split at hx<;>first | (cases hx; done) | skip
    rename_i v hv;rw [fV_eq] at hx
    exact ⟨v,σ1,h1,n1,by rw [hr v hv]; rfl,q3,hx⟩
   | ret =>
    simp only at hx ⊢
    split at hx<;>first | (cases hx; done) | skip
    rename_i v hv;rw [fV_eq] at hx
    exact ⟨v,σ1,h1,n1,by rw [hr v hv]; rfl,q3,hx⟩
   | exit j=>cases hx
noncomputable def paramF (m:Nat):List Tmp->List Value->TE->(TE->Option α)->Option α
 | p :: ps,v :: args=>fun t k=>putF m t (some p) v fun t=>paramF m ps args t k
 | _,_=>fun t k=>k t
theorem paramF_some:∀ {ps:List Tmp}{args:List Value}{t:TE}{τ:Array Value}{k:TE->Option α},ERel m t τ->paramF m ps args t k=some r->∃ t',k t'=some r/\ERel m t' ((ps.zip args).foldl (fun t q=>t.setIfInBounds q.1 q.2) τ)
 | [],args,t,τ,k,hE,hx=>by
  have hx:k t=some r:=by cases args<;>exact hx
  exact ⟨t,hx,by simpa using hE⟩
 | p :: ps,[],t,τ,k,hE,hx=>⟨t,hx,by simpa using hE⟩
 | p :: ps,v :: args,t,τ,k,hE,hx=>by
  have hx:putF m t (some p) v (fun t=>paramF m ps args t k)=some r:=hx
  obtain ⟨t1,hx,hE1⟩:=putF_some hE hx;have hE2:ERel m t1 (τ.setIfInBounds p v):=hE1;obtain ⟨t2,hx,hE3⟩:=paramF_some (ps:=ps) (args:=args) hE2 hx;exact ⟨t2,hx,hE3⟩
noncomputable def roundF (P:Program) (st:AE.Stat) (cf:CallF' α) (q:Nat) (l:Nat) (args:List Value) (h:TH) (n:Nat) (k:Value->TH->Nat->Option α):Option α :=
 match h.get l with
 | some (.loop ⟨τ⟩ ps asg body _ _) =>
  bif Nat.beq args.length ps.size&&noRange asg&&noRange body then initF τ 0 .leaf fun t=>paramF τ.length ps.toList args t fun t=>execF P st cf q τ.length asg t h n fun e t h n=>match e with
   | .normal=>(match beginG h.get l with
    | some b=>edF (.set l b) h n fun h n=>execF P st cf q τ.length body t h n fun e _ h n=>match endG h.get l (leftA e) with
     | some (v,b)=>edF (.set l b) h n fun h n=>k v h n
     | none=>none
    | none=>none)
   | .exit _=>none
   | .ret=>none
  else none
 | _=>none
theorem roundF_some {call:CallA}{cf:CallF' α}{q l:Nat}{args:List Value}{k:Value->TH->Nat->Option α}(hc:CallR call cf) (hH:HRel h n σ) (hx:roundF P st cf q l args h n k=some r) :
  ∃ v σ' h' n',roundA P st call q l args σ=some (v,σ')/\HRel h' n' σ'/\k v h' n'=some r:=by
 unfold roundF at hx;rw [hH.2] at hx
 split at hx<;>first | (cases hx; done) | skip
 rename_i τ ps asg body s p hl;have e:σ[l]?=some (some (.loop ⟨τ⟩ ps asg body s p)):=Option.join_eq_some_iff.1 hl;unfold roundA;rw [e];simp only
 cases hb:(Nat.beq args.length ps.size&&noRange asg&&noRange body) with
 | false=>rw [hb] at hx; cases hx
 | true =>
  rw [hb] at hx;simp only [cond_true] at hx;simp only [Bool.and_eq_true] at hb;rw [if_pos ⟨Nat.eq_of_beq_eq_true hb.1.1,hb.1.2,hb.2⟩];obtain ⟨t0,hx,ht0⟩:=initF_some hx
  have hE0:ERel τ.length t0 ⟨τ⟩:=by
   refine ⟨rfl,fun d hd=>?_⟩
   rw [ht0,if_pos (by omega),Array.getD_eq_getD_getElem?]
   simp
  obtain ⟨t1,hx,hE1⟩:=paramF_some hE0 hx;obtain ⟨e1,τ2,σ2,t2,h2,n2,q1,hE2,hH2,hx⟩:=execF_some hc asg hE1 hH hx
  have ef:(ps.zip args.toArray).foldl (fun t q=>t.setIfInBounds q.1 q.2) (⟨τ⟩:Array Value)=(ps.toList.zip args).foldl (fun t q=>t.setIfInBounds q.1 q.2) ⟨τ⟩:=by
   rw [<- Array.foldl_toList,Array.toList_zip]
  rw [ef,q1]
  cases e1 with
  | exit id=>cases hx
  | ret=>cases hx
  | normal =>
   simp only at hx ⊢;rw [show h2.get=hp σ2 from funext hH2.2] at hx
   split at hx<;>first | (cases hx; done) | skip
   rename_i b hb1;rw [beginG_some hb1];simp only;obtain ⟨h3,n3,hx,hH3⟩:=edF_some hH2 hx;obtain ⟨e4,τ4,σ4,t4,h4,n4,q4,hE4,hH4,hx⟩:=execF_some hc body hE2 hH3 hx;rw [show (Ed.app σ2 (.set l b))=σ2.set l (some b) from rfl] at q4;rw [q4];simp only;rw [show h4.get=hp σ4 from funext hH4.2] at hx
   split at hx<;>first | (cases hx; done) | skip
   rename_i v b2 hb2;obtain ⟨h5,n5,hx,hH5⟩:=edF_some hH4 hx;rw [endG_some hb2];exact ⟨v,_,h5,n5,rfl,hH5,hx⟩
abbrev ExtG:=FuncId->List Value->HF->Nat->RG
def extOf (x:ExtG):CallA:=fun f args σ=>RG.app σ (x f args (hp σ) σ.length)
noncomputable def runFF (P:Program) (st:AE.Stat) (x:ExtG) (q:Nat) (d:Nat):CallF' α :=
 Nat.rec (fun _ _ _ _ _=>none) (fun _ ih f args h n k=>match P.funcs[f]? with
  | some fn=>match x f args h.get n with
   | some (v,ed)=>fV v fun v=>edF ed h n fun h n=>k v h n
   | none=>bodyF P st ih q fn args h n k
  | none=>roundF P st ih q (Nat.sub f P.funcs.size) args h n k) d
theorem runFF_some {x:ExtG}(hx:st.ext=extOf x) {q:Nat}:∀ d,CallR (runF P st q d) (runFF (α:=α) P st x q d)
 | 0=>fun f args h n σ k r _ h=>by cases h
 | d+1=>fun f args h n σ k r hH hk=>by
  have hk:(match P.funcs[f]? with
   | some fn=>match x f args h.get n with
    | some (v,ed)=>fV v fun v=>edF ed h n fun h n=>k v h n
    | none=>bodyF P st (runFF P st x q d) q fn args h n k
   | none=>roundF P st (runFF P st x q d) q (Nat.sub f P.funcs.size) args h n k)=some r:=hk
  unfold runF
  cases hf:P.funcs[f]? with
  | none=>rw [hf] at hk; exact roundF_some (runFF_some hx d) hH hk
  | some fn =>
   rw [hf] at hk;simp only at hk ⊢
   have e:st.ext f args σ=RG.app σ (x f args h.get n):=by
    rw [hx,show h.get=hp σ from funext hH.2];have:=hH.1;subst this;rfl
   rw [e]
   cases hxx:x f args h.get n with
   | some y =>
    obtain ⟨v,ed⟩:=y;rw [hxx] at hk;simp only [fV_eq] at hk;obtain ⟨h',n',h1,h2⟩:=edF_some hH hk;exact ⟨v,_,h',n',rfl,h2,h1⟩
   | none =>
    rw [hxx] at hk;exact bodyF_some (runFF_some hx d) hH hk
noncomputable def answerF (P:Program) (st:AE.Stat) (x:ExtG) (q d:Nat) (f:FuncId) (args:List Value) (v:Value):Bool :=
 match runFF (α:=Unit) P st x q d f args .leaf 0 fun v' _ _=>bif veq v' v then some () else none with
 | some _=>true
 | none=>false
theorem answerF_run {x:ExtG}(hx:st.ext=extOf x) {q d:Nat}{f:FuncId}{args:List Value}{v:Value}(h:answerF P st x q d f args v=true):∃ σ',runF P st q d f args []=some (v,σ'):=by
 unfold answerF at h
 split at h<;>first | (cases h; done) | skip
 rename_i u hu
 obtain ⟨v',σ',h',n',h1,_,h3⟩:=runFF_some hx d f args .leaf 0 [] _ _ ⟨rfl,fun i=>rfl⟩ hu
 cases hv:veq v' v with
 | false=>rw [hv] at h3; cases h3
 | true=>exact ⟨σ',by rw [h1,veq_eq hv]⟩
end
end Go.AE
namespace Go.AE
open Go Go.RowKit
def stN:AE.Stat:=⟨fun _ _=>none,fun _ _ _=>none⟩
def joinL (ss:List ByteArray) (sep:ByteArray):List UInt8:=Lib.join (ss.map (·.data.toList)) sep.data.toList
def ascii (l:List UInt8):Bool:=l.all fun b=>Nat.blt b.toNat 128
def keepX (g:List Value->Option Value):List Value->RG:=fun a=>(g a).map (·,.keep)
section
variable {P:Program}{w0:World}{ρ:Ren}{w w':World}{f:FuncId}
theorem Nxt.of_below {σ:Heap}(hR:Rel w0 ρ (hp σ) w) (hb:Below w.heap.size w w'):Nxt w0 ρ σ w ρ σ w':=by
 refine ⟨Nat.le_refl _,.refl _ _ _,⟨hb.size,fun k hk _=>hb.block k hk,fun k hk _=>hk⟩,⟨hR.below.trans ⟨hb.os,hb.tape,hb.output,hb.size,fun k hk=>hb.block k (Nat.lt_of_lt_of_le hk hR.below.size)⟩,fun id b base n e=>?_,fun id b base n blk e1 e2=>?_,hR.inj⟩⟩
 ·have:=hR.dyn id b base n e;have:=hb.size;omega
 ·obtain ⟨o,ho,hc⟩:=hR.cont id b base n blk e1 e2;exact ⟨o,(hb.block b (hR.dyn id b base n e1).2).trans ho,hc⟩
theorem flat_args {args args':List Value}(hfa:args.all flat=true) (hargs:VRL ρ args args'):args'=args:=by
 apply List.ext_getElem hargs.1.symm
 intro i h1 h2;exact VR_flat (List.all_eq_true.1 hfa _ (List.getElem_mem h2)) (hargs.2 i _ _ (List.getElem?_eq_getElem h2) (List.getElem?_eq_getElem h1))
theorem keepX_app {g:List Value->Option Value}{args:List Value}{σ σ':Heap}{v:Value}(h:RG.app σ (keepX g args)=some (v,σ')):g args=some v/\σ'=σ:=by
 unfold RG.app keepX at h;simp only [Option.map_map,Option.map_eq_some_iff,Function.comp,Prod.mk.injEq] at h;obtain ⟨u,h1,rfl,rfl⟩:=h;exact ⟨h1,rfl⟩
theorem fnOk_keep {g:List Value->Option Value}(h:∀ args v,g args=some v->args.all flat=true/\flat v=true/\∀ w,Below w0.heap.size w0 w->Calls P f args.toArray w fun e w'=>e=.returned v/\Below w.heap.size w w') :
  FnOk P w0 f (fun a σ=>RG.app σ (keepX g a)):=by
 intro args σ v σ' hg;obtain ⟨hg2,rfl⟩:=keepX_app hg;obtain ⟨hfa,hfv,hc⟩:=h args v hg2
 refine ⟨Nat.le_refl _,fun ρ w args' hR _ hargs=>?_⟩
 obtain rfl:=flat_args hfa hargs
 exact (hc w hR.below).mono fun e w' ⟨he,hb⟩=>⟨v,he,ρ,.of_below hR hb,flat_VR ρ hfv⟩
end
end Go.AE
namespace Go.AE
open Go Go.RowKit
abbrev Emb:=Nat->Option Nat
def Emb.ren (ι:Emb) (ρ:Ren):Ren:=fun i=>(ι i).bind ρ
def eqAddr (ι:Emb) (a a':Addr):Bool :=
 match a.spot,a'.spot with
 | some s,some s'=>Nat.beq s s'&&Nat.beq a.block a'.block&&Nat.beq a.off a'.off
 | none,none=>Nat.beq a.off a'.off&&(match ι a.block with
  | some b=>Nat.beq b a'.block
  | none=>false)
 | _,_=>false
def eqId (ι:Emb) (a a':Nat):Bool:=match ι a with
 | some b=>Nat.beq b a'
 | none=>false
def eqL (f:Value->Value->Bool):List Value->List Value->Bool
 | [],[]=>true
 | x :: r,y :: s=>f x y&&eqL f r s
 | _,_=>false
def eqV (ι:Emb):Nat->Value->Value->Bool
 | 0,_,_=>false
 | n+1,x,y =>
  match x,y with
  | .bool a,.bool b=>a==b
  | .int k a,.int l b=>k==l&&a==b
  | .string a,.string b=>decide (a=b)
  | .pointer none,.pointer none=>true
  | .pointer (some a),.pointer (some b)=>eqAddr ι a b
  | .slice none l c,.slice none m d=>Nat.beq l m&&Nat.beq c d
  | .slice (some a) l c,.slice (some b) m d=>(Nat.beq c 0||eqAddr ι a b)&&Nat.beq l m&&Nat.beq c d
  | .map none,.map none=>true
  | .map (some a),.map (some b)=>eqId ι a b
  | .chan none,.chan none=>true
  | .chan (some a),.chan (some b)=>eqId ι a b
  | .nilFunc,.nilFunc=>true
  | .nilIface,.nilIface=>true
  | .func f a b,.func g c d=>f==g&&eqL (eqV ι n) a.toList c.toList&&eqL (eqV ι n) b.toList d.toList
  | .iface s a,.iface t b=>s==t&&eqV ι n a b
  | .agg a,.agg b=>eqL (eqV ι n) a.toList b.toList
  | .tuple a,.tuple b=>eqL (eqV ι n) a.toList b.toList
  | _,_=>false
section
variable {ι:Emb}{ρ:Ren}
theorem eqAddr_ok {a a' u:Addr}(h:eqAddr ι a a'=true) (hu:addrOk ρ a' u):addrOk (ι.ren ρ) a u:=by
 unfold eqAddr at h;obtain ⟨h0,hk⟩:=hu;refine ⟨h0,?_⟩;split at h
 ·rename_i s s' hs hs';simp only [Bool.and_eq_true,Nat.beq_eq] at h
  rcases hk with ⟨t,h1,h2,h3⟩ | ⟨h1,_⟩
  ·exact .inl ⟨s,hs,by rw [h2]; exact h.1.2.symm,by rw [h3]; exact h.2.symm⟩
  ·rw [hs'] at h1; cases h1
 ·rename_i hs hs';simp only [Bool.and_eq_true,Nat.beq_eq] at h;obtain ⟨h4,h5⟩:=h;split at h5
  ·rename_i b hb;rw [Nat.beq_eq] at h5
   rcases hk with ⟨t,h1,_⟩ | ⟨h1,b',base,n,h2,h3,h6⟩
   ·rw [hs'] at h1; cases h1
   ·exact .inr ⟨hs,b',base,n,by simp [Emb.ren,hb,h5,h2],h3,by rw [h6,h4]⟩
  ·cases h5
 ·cases h
theorem eqId_ok {a a':Nat}{x:Nat×Nat×Nat}(h:eqId ι a a'=true) (hx:ρ a'=some x):ι.ren ρ a=some x:=by
 unfold eqId at h;split at h
 ·rename_i b hb;rw [Nat.beq_eq] at h;simp [Emb.ren,hb,h,hx]
 ·cases h
theorem eqL_len {f:Value->Value->Bool}:∀ {l l':List Value},eqL f l l'=true->l.length=l'.length
 | [],[],_=>rfl
 | x :: r,y :: s,h=>by
  simp only [eqL,Bool.and_eq_true] at h;simp [eqL_len h.2]
 | [],_ :: _,h=>by cases h
 | _ :: _,[],h=>by cases h
theorem eqL_at {f:Value->Value->Bool}:∀ {l l':List Value},eqL f l l'=true->∀ (i:Nat) x y,l[i]?=some x->l'[i]?=some y->f x y=true
 | [],[],_,i,x,y,hx,_=>by simp at hx
 | u :: r,v :: s,h,i,x,y,hx,hy=>by
  simp only [eqL,Bool.and_eq_true] at h
  cases i with
  | zero=>simp at hx hy; subst hx; subst hy; exact h.1
  | succ i=>exact eqL_at h.2 i x y (by simpa using hx) (by simpa using hy)
 | [],_ :: _,h,_,_,_,_,_=>by cases h
 | _ :: _,[],h,_,_,_,_,_=>by cases h
theorem eqL_VRL {f:Value->Value->Bool}(hf:∀ x y,f x y=true->∀ u,VR ρ y u->VR (ι.ren ρ) x u) {l l':List Value}(h:eqL f l l'=true) {m:List Value}(hm:VRL ρ l' m):VRL (ι.ren ρ) l m:=by
 have hl:=eqL_len h
 refine ⟨hl.trans hm.1,fun i v u hv hu=>?_⟩
 have hi:i<l'.length:=by rw [<- hl]; exact (List.getElem?_eq_some_iff.1 hv).1
 exact hf v l'[i] (eqL_at h i _ _ hv (List.getElem?_eq_getElem hi)) u (hm.2 i _ u (List.getElem?_eq_getElem hi) hu)
theorem eqA_VRA {f:Value->Value->Bool}(hf:∀ x y,f x y=true->∀ u,VR ρ y u->VR (ι.ren ρ) x u) {l l':Array Value}(h:eqL f l.toList l'.toList=true) {m:Array Value}(hm:VRA ρ l' m):VRA (ι.ren ρ) l m :=
 .of_list (eqL_VRL hf h (.of_array hm))
theorem eqV_VR:∀ (n:Nat) (v v':Value),eqV ι n v v'=true->∀ u,VR ρ v' u->VR (ι.ren ρ) v u:=by
 intro n
 induction n with
 | zero=>intro v v' h; cases h
 | succ n ih =>
  intro v v' h u hu;unfold eqV at h;split at h
  ·simp only [beq_iff_eq] at h; subst h; cases hu; exact .bool _
  ·simp only [Bool.and_eq_true,beq_iff_eq] at h; obtain ⟨rfl,rfl⟩:=h; cases hu; exact .int _ _
  ·simp only [decide_eq_true_eq] at h; subst h; cases hu; exact .string _
  ·cases hu; exact .pnil
  ·cases hu with
   | ptr _ a' ha=>exact .ptr _ _ (eqAddr_ok h ha)
  ·simp only [Bool.and_eq_true,Nat.beq_eq] at h;obtain ⟨rfl,rfl⟩:=h
   cases hu; exact .snil
  ·simp only [Bool.and_eq_true,Bool.or_eq_true,Nat.beq_eq] at h;obtain ⟨⟨h0,rfl⟩,rfl⟩:=h
   cases hu with
   | sliceX _ a' _ _ h1 h2 h3 =>
    refine .sliceX _ _ _ _ h1 h2 ?_
    rcases h0 with h0 | h0
    ·exact .inl h0
    ·exact h3.imp id (eqAddr_ok h0)
   | sliceU _ a' _ _ cap' sz h4 h1 h2 h3 =>
    refine .sliceU _ _ _ _ cap' sz h4 h1 h2 ?_
    rcases h0 with h0 | h0
    ·exfalso; unfold unk at h4; omega
    ·refine h3.imp id fun ⟨x,y,b,base,m,hr,hb⟩=>?_
     have hx:=eqAddr_ok h0 x;unfold eqAddr at h0;split at h0
     ·rename_i s s' hs hs'
      rw [hs'] at y; cases y
     ·rename_i hs hs';simp only [Bool.and_eq_true,Nat.beq_eq] at h0;obtain ⟨h5,h6⟩:=h0;split at h6
      ·rename_i c hc;rw [Nat.beq_eq] at h6
       exact ⟨hx,hs,b,base,m,by simp [Emb.ren,hc,h6,hr],by rw [h5]; exact hb⟩
      ·cases h6
     ·cases h0
  ·cases hu; exact .mnil
  ·cases hu with
   | map _ b x y hr=>exact .map _ b x y (eqId_ok h hr)
  ·cases hu with
   | any _ hv=>exact .any _ hv
  ·cases hu with
   | yield _ l' x y hr=>exact .yield _ l' x y (eqId_ok h hr)
  ·cases hu; exact .nilFunc
  ·cases hu; exact .nilIface
  ·simp only [Bool.and_eq_true,beq_iff_eq] at h;obtain ⟨⟨rfl,h1⟩,h2⟩:=h
   cases hu with
   | func _ _ _ x' y' k1 k2 k3 k4 =>
    have hx:=eqA_VRA ih h1 ⟨k1,k3⟩;have hy:=eqA_VRA ih h2 ⟨k2,k4⟩;exact .func _ _ _ _ _ hx.1 hy.1 hx.2 hy.2
  ·simp only [Bool.and_eq_true,beq_iff_eq] at h;obtain ⟨rfl,h1⟩:=h
   cases hu with
   | iface _ _ v' hx=>exact .iface _ _ _ (ih _ _ h1 _ hx)
  ·cases hu with
   | agg _ x' k1 k2=>exact .agg' (eqA_VRA ih h ⟨k1,k2⟩)
  ·cases hu with
   | tuple _ x' k1 k2=>exact .tuple' (eqA_VRA ih h ⟨k1,k2⟩)
  ·cases h
end
def mapO {A B:Type}(f:A->Option B):List A->Option (List B)
 | []=>some []
 | x :: r=>match f x with
  | some y=>match mapO f r with
   | some s=>some (y :: s)
   | none=>none
  | none=>none
theorem mapO_at {A B:Type}{f:A->Option B}:∀ {l:List A}{m:List B},mapO f l=some m->m.length=l.length/\∀ (i:Nat) x,l[i]?=some x->∃ y,m[i]?=some y/\f x=some y
 | [],m,h=>by obtain rfl:=Option.some.inj h; exact ⟨rfl,fun i x hx=>by simp at hx⟩
 | x :: r,m,h=>by
  unfold mapO at h
  split at h<;>first | (cases h; done) | skip
  rename_i y hy
  split at h<;>first | (cases h; done) | skip
  rename_i s hs;obtain rfl:=Option.some.inj h;obtain ⟨h1,h2⟩:=mapO_at hs
  refine ⟨by simp [h1],fun i x hx=>?_⟩
  cases i with
  | zero=>simp at hx; subst hx; exact ⟨y,rfl,hy⟩
  | succ i=>simpa using h2 i x (by simpa using hx)
def rnAddr (ι:Emb) (a:Addr):Option Addr :=
 match a.spot with
 | some _=>some a
 | none=>match ι a.block with
  | some b=>some ⟨b,a.off,none⟩
  | none=>none
def rnV (ι:Emb):Nat->Value->Option Value
 | 0,_=>none
 | n+1,v =>
  match v with
  | .bool a=>some (.bool a)
  | .int k a=>some (.int k a)
  | .string a=>some (.string a)
  | .pointer none=>some (.pointer none)
  | .pointer (some a)=>match rnAddr ι a with
   | some b=>some (.pointer (some b))
   | none=>none
  | .slice none l c=>some (.slice none l c)
  | .slice (some a) l c=>match Nat.beq c 0 with
   | true=>some (.slice (some ⟨0,0,none⟩) l c)
   | false=>match rnAddr ι a with
    | some b=>some (.slice (some b) l c)
    | none=>none
  | .map none=>some (.map none)
  | .map (some a)=>match ι a with
   | some b=>some (.map (some b))
   | none=>none
  | .chan none=>some (.chan none)
  | .nilFunc=>some .nilFunc
  | .nilIface=>some .nilIface
  | .func f a b=>match mapO (rnV ι n) a.toList,mapO (rnV ι n) b.toList with
   | some x,some y=>some (.func f ⟨x⟩ ⟨y⟩)
   | _,_=>none
  | .iface s a=>match rnV ι n a with
   | some x=>some (.iface s x)
   | none=>none
  | .agg a=>match mapO (rnV ι n) a.toList with
   | some x=>some (.agg ⟨x⟩)
   | none=>none
  | .tuple a=>match mapO (rnV ι n) a.toList with
   | some x=>some (.tuple ⟨x⟩)
   | none=>none
  | _=>none
section
variable {ι:Emb}{ρ σ:Ren}
def Agree (ι:Emb) (ρ σ:Ren):Prop:=∀ i x,σ i=some x->∀ j,ι i=some j->ρ j=some x
theorem rnAddr_ok (hA:Agree ι ρ σ) {a b u:Addr}(h:rnAddr ι a=some b) (hu:addrOk σ a u):addrOk ρ b u:=by
 unfold rnAddr at h;obtain ⟨h0,hk⟩:=hu;refine ⟨h0,?_⟩;split at h
 ·rename_i s hs;obtain rfl:=Option.some.inj h
  rcases hk with h1 | ⟨h1,_⟩
  ·exact .inl h1
  ·rw [hs] at h1; cases h1
 ·rename_i hs
  split at h<;>first | (cases h; done) | skip
  rename_i b' hb;obtain rfl:=Option.some.inj h
  rcases hk with ⟨s,h1,_⟩ | ⟨h1,c,base,n,h2,h3,h4⟩
  ·rw [hs] at h1; cases h1
  ·exact .inr ⟨rfl,c,base,n,hA _ _ h2 _ hb,h3,h4⟩
theorem mapO_VRL {f:Value->Option Value}(hf:∀ x y,f x=some y->∀ u,VR σ x u->VR ρ y u) {l l':List Value}(h:mapO f l=some l') {m:List Value}(hm:VRL σ l m):VRL ρ l' m:=by
 obtain ⟨hl,hk⟩:=mapO_at h
 refine ⟨hl.trans hm.1,fun i v u hv hu=>?_⟩
 have hi:i<l.length:=by rw [<- hl]; exact (List.getElem?_eq_some_iff.1 hv).1
 obtain ⟨y,h1,h2⟩:=hk i _ (List.getElem?_eq_getElem hi);obtain rfl:=Option.some.inj (h1.symm.trans hv);exact hf _ _ h2 u (hm.2 i _ u (List.getElem?_eq_getElem hi) hu)
theorem rnV_VR (hA:Agree ι ρ σ):∀ (n:Nat) (v v':Value),rnV ι n v=some v'->∀ u,VR σ v u->VR ρ v' u:=by
 intro n
 induction n with
 | zero=>intro v v' h; cases h
 | succ n ih =>
  intro v v' h u hu
  have arr:∀ {a a':Array Value}{l:List Value},mapO (rnV ι n) a.toList=some l->VRA σ a a'->VRA ρ ⟨l⟩ a':=fun h1 h2=>.of_list (mapO_VRL ih h1 (.of_array h2))
  unfold rnV at h;split at h
  ·obtain rfl:=Option.some.inj h; cases hu; exact .bool _
  ·obtain rfl:=Option.some.inj h; cases hu; exact .int _ _
  ·obtain rfl:=Option.some.inj h; cases hu; exact .string _
  ·obtain rfl:=Option.some.inj h; cases hu; exact .pnil
  ·split at h<;>first | (cases h; done) | skip
   rename_i b hb;obtain rfl:=Option.some.inj h
   cases hu with
   | ptr _ a' ha=>exact .ptr _ _ (rnAddr_ok hA hb ha)
  ·obtain rfl:=Option.some.inj h; cases hu; exact .snil
  ·split at h
   ·rename_i hc;obtain rfl:=Option.some.inj h;have hc:=Nat.eq_of_beq_eq_true hc
    cases hu with
    | sliceX _ a' _ _ h1 h2 h3=>exact .sliceX _ _ _ _ h1 h2 (.inl hc)
    | sliceU _ a' _ _ cap' sz h4 h1 h2 h3=>exfalso; unfold unk at h4; omega
   ·rename_i hc
    split at h<;>first | (cases h; done) | skip
    rename_i b hb;obtain rfl:=Option.some.inj h
    cases hu with
    | sliceX _ a' _ _ h1 h2 h3=>exact .sliceX _ _ _ _ h1 h2 (h3.imp id (rnAddr_ok hA hb))
    | sliceU _ a' _ _ cap' sz h4 h1 h2 h3 =>
     refine .sliceU _ _ _ _ cap' sz h4 h1 h2 (h3.imp id fun ⟨x,y,c,base,m,hr,hb'⟩=>?_)
     have hx:=rnAddr_ok hA hb x;unfold rnAddr at hb;rw [y] at hb;simp only at hb
     split at hb<;>first | (cases hb; done) | skip
     rename_i d hd;obtain rfl:=Option.some.inj hb;exact ⟨hx,rfl,c,base,m,hA _ _ hr _ hd,hb'⟩
  ·obtain rfl:=Option.some.inj h; cases hu; exact .mnil
  ·split at h<;>first | (cases h; done) | skip
   rename_i b hb;obtain rfl:=Option.some.inj h
   cases hu with
   | map _ c x y hr=>exact .map _ c x y (hA _ _ hr _ hb)
  ·obtain rfl:=Option.some.inj h
   cases hu with
   | any _ hv=>exact .any _ hv
  ·obtain rfl:=Option.some.inj h; cases hu; exact .nilFunc
  ·obtain rfl:=Option.some.inj h; cases hu; exact .nilIface
  ·split at h<;>first | (cases h; done) | skip
   rename_i x y hx hy;obtain rfl:=Option.some.inj h
   cases hu with
   | func _ _ _ x' y' k1 k2 k3 k4 =>
    have h1:=arr hx ⟨k1,k3⟩;have h2:=arr hy ⟨k2,k4⟩;exact .func _ _ _ _ _ h1.1 h2.1 h1.2 h2.2
  ·split at h<;>first | (cases h; done) | skip
   rename_i x hx;obtain rfl:=Option.some.inj h
   cases hu with
   | iface _ _ v' hv=>exact .iface _ _ _ (ih _ _ hx _ hv)
  ·split at h<;>first | (cases h; done) | skip
   rename_i x hx;obtain rfl:=Option.some.inj h
   cases hu with
   | agg _ x' k1 k2=>exact .agg' (arr hx ⟨k1,k2⟩)
  ·split at h<;>first | (cases h; done) | skip
   rename_i x hx;obtain rfl:=Option.some.inj h
   cases hu with
   | tuple _ x' k1 k2=>exact .tuple' (arr hx ⟨k1,k2⟩)
  ·cases h
end
def eqE (ι:Emb):List (Value×Value)->List (Value×Value)->Bool
 | [],[]=>true
 | (k,v) :: r,(k',v') :: s=>veq k k'&&eqV ι 6 v v'&&eqE ι r s
 | _,_=>false
def eqB (ι:Emb):Blk->Blk->Bool
 | .cells l,.cells l'=>eqL (eqV ι 6) l l'
 | .map es,.map es'=>eqE ι es es'
 | .iter s p,.iter s' p'=>decide (s=s')&&Nat.beq p p'
 | .pmap q es,.pmap q' es'=>decide (q=q')&&eqE ι es es'
 | _,_=>false
def rnE (ι:Emb):List (Value×Value)->Option (List (Value×Value))
 | []=>some []
 | (k,v) :: r=>match rnV ι 6 v with
  | some v'=>match rnE ι r with
   | some s=>some ((k,v') :: s)
   | none=>none
  | none=>none
def rnB (ι:Emb):Blk->Option Blk
 | .cells l=>match mapO (rnV ι 6) l with
  | some l'=>some (.cells l')
  | none=>none
 | .map es=>match rnE ι es with
  | some es'=>some (.map es')
  | none=>none
 | .iter s p=>some (.iter s p)
 | .pmap q es=>match rnE ι es with
  | some es'=>some (.pmap q es')
  | none=>none
 | _=>none
section
variable {ι:Emb}{ρ σ:Ren}
theorem eqE_at:∀ {es es':List (Value×Value)},eqE ι es es'=true->es.length=es'.length/\∀ (i:Nat) k v,es[i]?=some (k,v)->∃ v',es'[i]?=some (k,v')/\eqV ι 6 v v'=true
 | [],[],_=>⟨rfl,fun i k v h=>by simp at h⟩
 | (k,v) :: r,(k',v') :: s,h=>by
  simp only [eqE,Bool.and_eq_true] at h;obtain ⟨⟨h1,h2⟩,h3⟩:=h;obtain ⟨h4,h5⟩:=eqE_at h3;have:=veq_eq h1;subst this
  refine ⟨by simp [h4],fun i k2 v2 hi=>?_⟩
  cases i with
  | zero=>simp at hi; obtain ⟨rfl,rfl⟩:=hi; exact ⟨v',rfl,h2⟩
  | succ i=>simpa using h5 i k2 v2 (by simpa using hi)
 | [],_ :: _,h=>by cases h
 | _ :: _,[],h=>by cases h
theorem rnE_at:∀ {es es':List (Value×Value)},rnE ι es=some es'->es.length=es'.length/\∀ (i:Nat) k v,es'[i]?=some (k,v)->∃ u,es[i]?=some (k,u)/\rnV ι 6 u=some v
 | [],es',h=>by obtain rfl:=Option.some.inj h; exact ⟨rfl,fun i k v h=>by simp at h⟩
 | (k,v) :: r,es',h=>by
  unfold rnE at h
  split at h<;>first | (cases h; done) | skip
  rename_i v' hv
  split at h<;>first | (cases h; done) | skip
  rename_i s hs;obtain rfl:=Option.some.inj h;obtain ⟨h4,h5⟩:=rnE_at hs
  refine ⟨by simp [h4],fun i k2 v2 hi=>?_⟩
  cases i with
  | zero=>simp at hi; obtain ⟨rfl,rfl⟩:=hi; exact ⟨v,rfl,hv⟩
  | succ i=>simpa using h5 i k2 v2 (by simpa using hi)
theorem eqB_ok {b b':Blk}(h:eqB ι b b'=true) {base n:Nat}{o:Obj}(ho:contentOk ρ base n b' o):contentOk (ι.ren ρ) base n b o:=by
 unfold eqB at h;split at h
 ·rename_i l l';obtain ⟨cs,ty,fz,e,hz,hs,hl,hv⟩:=ho;have hlen:=eqL_len h
  refine ⟨cs,ty,fz,e,hz,hs,by omega,fun i v hi=>?_⟩
  have hi':i<l'.length:=by rw [<- hlen]; exact (List.getElem?_eq_some_iff.1 hi).1
  obtain ⟨v',h1,h2⟩:=hv i _ (List.getElem?_eq_getElem hi');exact ⟨v',h1,eqV_VR 6 _ _ (eqL_at h i _ _ hi (List.getElem?_eq_getElem hi')) _ h2⟩
 ·rename_i es es';obtain ⟨en,cl,e,hs,hv⟩:=ho;obtain ⟨h1,h2⟩:=eqE_at h
  refine ⟨en,cl,e,by omega,fun i k v hi=>?_⟩
  obtain ⟨v',h3,h4⟩:=h2 i k v hi;obtain ⟨x,a,b,c,d⟩:=hv i k v' h3;exact ⟨x,a,b,c,eqV_VR 6 _ _ h4 _ d⟩
 ·simp only [Bool.and_eq_true,decide_eq_true_eq,Nat.beq_eq] at h;obtain ⟨rfl,rfl⟩:=h;exact ho
 ·rename_i q es q' es';simp only [Bool.and_eq_true,decide_eq_true_eq] at h;obtain ⟨rfl,h⟩:=h;obtain ⟨en,cl,e,hv⟩:=ho;obtain ⟨h1,h2⟩:=eqE_at h
  refine ⟨en,cl,e,fun k v hm=>?_⟩
  obtain ⟨i,hi⟩:=List.getElem?_of_mem hm;obtain ⟨v',h3,h4⟩:=h2 i k v hi;obtain ⟨j,u,a,b⟩:=hv k v' (List.mem_of_getElem? h3);exact ⟨j,u,a,eqV_VR 6 _ _ h4 _ b⟩
 ·cases h
theorem rnB_ok (hA:Agree ι ρ σ) {b b':Blk}(h:rnB ι b=some b') {base n:Nat}{o:Obj}(ho:contentOk σ base n b o):contentOk ρ base n b' o:=by
 unfold rnB at h;split at h
 ·rename_i l
  split at h<;>first | (cases h; done) | skip
  rename_i l' hl';obtain rfl:=Option.some.inj h;obtain ⟨cs,ty,fz,e,hz,hs,hl,hv⟩:=ho;obtain ⟨hlen,hk⟩:=mapO_at hl'
  refine ⟨cs,ty,fz,e,hz,hs,by omega,fun i v hi=>?_⟩
  have hi':i<l.length:=by rw [<- hlen]; exact (List.getElem?_eq_some_iff.1 hi).1
  obtain ⟨y,h1,h2⟩:=hk i _ (List.getElem?_eq_getElem hi');obtain rfl:=Option.some.inj (h1.symm.trans hi);obtain ⟨v',h3,h4⟩:=hv i _ (List.getElem?_eq_getElem hi');exact ⟨v',h3,rnV_VR hA 6 _ _ h2 _ h4⟩
 ·rename_i es
  split at h<;>first | (cases h; done) | skip
  rename_i es' he;obtain rfl:=Option.some.inj h;obtain ⟨en,cl,e,hs,hv⟩:=ho;obtain ⟨h1,h2⟩:=rnE_at he
  refine ⟨en,cl,e,by omega,fun i k v hi=>?_⟩
  obtain ⟨u,h3,h4⟩:=h2 i k v hi;obtain ⟨x,a,b,c,d⟩:=hv i k u h3;exact ⟨x,a,b,c,rnV_VR hA 6 _ _ h4 _ d⟩
 ·obtain rfl:=Option.some.inj h;exact ho
 ·rename_i q es
  split at h<;>first | (cases h; done) | skip
  rename_i es' he;obtain rfl:=Option.some.inj h;obtain ⟨en,cl,e,hv⟩:=ho;obtain ⟨h1,h2⟩:=rnE_at he
  refine ⟨en,cl,e,fun k v hm=>?_⟩
  obtain ⟨i,hi⟩:=List.getElem?_of_mem hm;obtain ⟨u,h3,h4⟩:=h2 i k v hi;obtain ⟨j,x,a,b⟩:=hv k u (List.mem_of_getElem? h3);exact ⟨j,x,a,rnV_VR hA 6 _ _ h4 _ b⟩
 ·cases h
end
end Go.AE
