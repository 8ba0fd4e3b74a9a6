/-
 Write as the evaluator runs it,at questions.
 Conditions: none beyond those of the contracts.
-/
import Derived.Test.YtigmkgampfbflaaGreatDoorJOp
namespace Go.Proofs.YtigmkgampfbflaaGreatDoor
open Go Go.AE Go.DE Go.RowKit
def mcQ (y:Tm) (r:ByteArray):List DV:=(y.cells.set 25 (bv false)).set 41 (sv r)
noncomputable def ofC (Q:List DV->Prop) (y:Tm):ConF:=fun args k=>match args with
 | [.agg l]=>bif holds (Q l) then k (fun _=>(.agg (mcQ y (y.S 41)),[])) else none
 | _=>none
def evU:Nat->Nat->DV:=fun _ f=>(evS 0 110 (Seq.mk 0 110 [6]).c.get 1).getD f .any
theorem q_loop (y:Tm) (n i:Nat) (r:ByteArray) (b1 b4:DBlk) (Q4:List DV->Prop) (QI:Int->Prop) (S:Nat->ByteArray) (K:Ex->Nat->List DV->List DV->DHeap->Option Unit):execD Tryz.prog (envG Tryz.prog gl0 [] [e37q [e194 QI S] Q4] [] noLp 0) (loopAt Tryz.f14 250) 500 (temps 47 [4,5,6,28,29,30] [.po 1 0 0,.po 2 0 0,.po 4 0 0,.os 3 0 n,iv n,iv i]) [none,some b1,some ⟨42,.lst [mcQ y r]⟩,some ⟨7,.tab n evU⟩,some b4] (fun e τ σ=>K e τ.length (pick [4,5,6,28,29,30] τ) (pick [4,5,6] τ) σ) =
  bif decide ((i:Int)<(n:Int)) then bif decide ((i:Int)<(n:Int)) then bif decide (0+tN i<n) then bif decide (0+tN i<n) then bif decide (0+tN i<n) then bif decide (0+tN i<n)
  then bif decide (0+tN i<n) then bif decide (0+tN i<n) then bif decide (0+tN i<n) then bif holds (Q4 [iv 4,kv .i32 0,kv .u8 110,kv .u8 0,sv ⟨#[]⟩,.sl false (DC.get (Seq.c { p:=0,cd:=110,l:=[6] })) 1 1,sv ⟨#[]⟩])
  then bif holds (QI (IntKind.wrap .i64 (y.I 6+1))) then bif decide (2+ByteArray.size (S (Int.toNat (IntKind.wrap .i64 (y.I 6+1))))<=9223372036854775807) then bif decide (ByteArray.size ({ data:=#[(27:UInt8),(91:UInt8)] }++S (Int.toNat (IntKind.wrap .i64 (y.I 6+1))))+(1:Nat)<=9223372036854775807)
  then bif holds (QI (IntKind.wrap .i64 (y.I 7+1))) then bif decide (ByteArray.size ({ data:=#[(27:UInt8),(91:UInt8)] }++S (Int.toNat (IntKind.wrap .i64 (y.I 6+1)))++{ data:=#[(59:UInt8)] })+ByteArray.size (S (Int.toNat (IntKind.wrap .i64 (y.I 7+1))))<=9223372036854775807)
  then bif decide (ByteArray.size ({ data:=#[(27:UInt8),(91:UInt8)] }++S (Int.toNat (IntKind.wrap .i64 (y.I 6+1)))++{ data:=#[(59:UInt8)] }++S (Int.toNat (IntKind.wrap .i64 (y.I 7+1))))+(1:Nat)<=9223372036854775807)
  then bif holds (decide (IntKind.wrap .i64 ((↑(ByteArray.size r):Int)+(↑(ByteArray.size ({ data:=#[(27:UInt8),(91:UInt8)] }++S (Int.toNat (IntKind.wrap .i64 (y.I 6+1)))++{ data:=#[(59:UInt8)] }++S (Int.toNat (IntKind.wrap .i64 (y.I 7+1)))++{ data:=#[(82:UInt8)] })):Int))<=1000)=true)
  then bif decide (ByteArray.size r+ByteArray.size ({ data:=#[(27:UInt8),(91:UInt8)] }++S (Int.toNat (IntKind.wrap .i64 (y.I 6+1)))++{ data:=#[(59:UInt8)] }++S (Int.toNat (IntKind.wrap .i64 (y.I 7+1)))++{ data:=#[(82:UInt8)] })<=9223372036854775807)
  then K .normal 47 [.po 1 0 0,.po 2 0 0,.po 4 0 0,.os 3 0 n,iv (n:Int),iv (IntKind.wrap .i64 ((i:Int)+1))] [.po 1 0 0,.po 2 0 0,.po 4 0 0] [none,some b1,some ⟨42,.upd (.lst [[iv (y.I 0),iv (y.I 1),.sl false (rowsD y.gT y.gR) 1 y.gn,iv (y.I 3),iv (y.I 4),.sl false (rowsD y.oT y.oR) 1 y.on,iv (y.I 6),iv (y.I 7),bv (y.B 8),iv (y.I 9),iv (y.I 10),bv (y.B 11),iv (y.I 12),iv (y.I 13),iv (y.I 14),bv (y.B 15),kv .u8 ((y.I 16)),kv .u8 ((y.I 17)),iv (y.I 18),iv (y.I 19),iv (y.I 20),iv (y.I 21),bv (y.B 22),bv (y.B 23),bv (y.B 24),bv false,bv (y.B 26),bv (y.B 27),bv (y.B 28),bv (y.B 29),kv .u8 ((y.I 30)),kv .u8 ((y.I 31)),iv (y.I 32),iv (y.I 33),iv (y.I 34),.sl false (tabsD y.tb) 1 y.tn,.sl false (rowsD y.bT y.bR) 1 y.bn,iv (y.I 37),sv (y.S 38),sv (y.S 39),sv (y.S 40),sv r]]) 0 41 (sv (r++({ data:=#[(27:UInt8),(91:UInt8)] }++S (Int.toNat (IntKind.wrap .i64 (y.I 6+1)))++{ data:=#[(59:UInt8)] }++S (Int.toNat (IntKind.wrap .i64 (y.I 7+1)))++{ data:=#[(82:UInt8)] })))⟩,some ⟨7,.tab n evU⟩,some b4,some ⟨7,updF (.lst [[iv 0,kv .i32 0,kv .u8 0,kv .u8 0,sv ⟨#[]⟩,DV.v (Value.slice none 0 0),sv ⟨#[]⟩]]) 0 [iv 4,kv .i32 0,kv .u8 110,kv .u8 0,sv ⟨#[]⟩,.sl false (DC.get (Seq.c { p:=0,cd:=110,l:=[6] })) 1 1,sv ⟨#[]⟩]⟩,some ⟨7,.lst [[iv 4,kv .i32 0,kv .u8 110,kv .u8 0,sv ⟨#[]⟩,.sl false (DC.get (Seq.c { p:=0,cd:=110,l:=[6] })) 1 1,sv ⟨#[]⟩]]⟩,some ⟨7,.lst [[iv 4,kv .i32 0,kv .u8 110,kv .u8 0,sv ⟨#[]⟩,.sl false (DC.get (Seq.c { p:=0,cd:=110,l:=[6] })) 1 1,sv ⟨#[]⟩]]⟩,some ⟨1,.lst [[.fn (Fn.func 220) [.po 2 0 0] []]]⟩]
  else none else none else none else none else none else none else none else none else none else none else none else none else none else none else none else none else none else K (.exit 0) 47 [.po 1 0 0,.po 2 0 0,.po 4 0 0,.os 3 0 n,iv (n:Int),iv (i:Int)] [.po 1 0 0,.po 2 0 0,.po 4 0 0] [none,some b1,some ⟨42,.lst [[iv (y.I 0),iv (y.I 1),.sl false (rowsD y.gT y.gR) 1 y.gn,iv (y.I 3),iv (y.I 4),.sl false (rowsD y.oT y.oR) 1 y.on,iv (y.I 6),iv (y.I 7),bv (y.B 8),iv (y.I 9),iv (y.I 10),bv (y.B 11),iv (y.I 12),iv (y.I 13),iv (y.I 14),bv (y.B 15),kv .u8 ((y.I 16)),kv .u8 ((y.I 17)),iv (y.I 18),iv (y.I 19),iv (y.I 20),iv (y.I 21),bv (y.B 22),bv (y.B 23),bv (y.B 24),bv false,bv (y.B 26),bv (y.B 27),bv (y.B 28),bv (y.B 29),kv .u8 ((y.I 30)),kv .u8 ((y.I 31)),iv (y.I 32),iv (y.I 33),iv (y.I 34),.sl false (tabsD y.tb) 1 y.tn,.sl false (rowsD y.bT y.bR) 1 y.bn,iv (y.I 37),sv (y.S 38),sv (y.S 39),sv (y.S 40),sv r]]⟩,some ⟨7,.tab n evU⟩,some b4]:=by
 kernel_rfl
end Go.Proofs.YtigmkgampfbflaaGreatDoor
namespace Go.Proofs.YtigmkgampfbflaaGreatDoor
open Go Go.AE Go.DE Go.RowKit
theorem emp_of {s:ByteArray}(h:Nat.beq s.size 0=true):s=⟨#[]⟩:=bytes_ext (List.eq_nil_of_length_eq_zero (by rw [Array.length_toList]; exact Nat.eq_of_beq_eq_true h))
theorem prT_ok {st:AE.Stat}(hx:Hx st):ConOk Tryz.prog st 34 prT:=fun args k hk=>by
 unfold prT at hk
 split at hk<;>first | (cases hk; done) | skip
 rename_i p s;obtain ⟨hb,hk⟩:=bif_none hk;rw [Bool.and_eq_true] at hb;obtain rfl:=emp_of hb.1;obtain rfl:=emp_of hb.2;exact prpC_ok hx _ k (hT ⟨rfl,rfl⟩ hk)
def imQ (v:Int) (p s:ByteArray):Prop:=prF v p s=false/\p.size<=9000000/\s.size<=9000000
theorem prk_ok {st:AE.Stat}(hx:Hx st):ConOkZ true Tryz.prog st 34 (prkC imQ false):=fun args k hk=>by
 unfold prkC at hk
 split at hk<;>first | (cases hk; done) | skip
 rename_i v p s;obtain ⟨hb,hk⟩:=bif_none hk;obtain ⟨h1,h2,h3⟩:=holds_eq.1 hb
 exact praC_ok hx _ k (dT h2 (dT h3 (by rw [h1]; exact hk)))
section
variable {st:AE.Stat}(hx:Hx st)
include hx
theorem i119:InOk Tryz.prog st e119:=in_of hx Tryz.func119 (by kernel_rfl) (by kernel_rfl) rfl no_in no_con
theorem i167:InOk Tryz.prog st e167:=in_of hx Tryz.func167 (by kernel_rfl) (by kernel_rfl) rfl no_in no_con
theorem i168:InOk Tryz.prog st e168:=in_of hx Tryz.func168 (by kernel_rfl) (by kernel_rfl) rfl no_in no_con
theorem i120:InOk Tryz.prog st e120:=in_of hx Tryz.func120 (by kernel_rfl) (by kernel_rfl) rfl (in_cons (i167 hx) (in_cons (i119 hx) no_in)) no_con
theorem i117:InOk Tryz.prog st e117q:=in_of hx Tryz.func117 (by kernel_rfl) (by kernel_rfl) rfl (in_cons (i119 hx) no_in) no_con
variable (hs:∀ a σ,st.ext 169 a σ=RL.app σ (csX a σ.length))
include hs
theorem i121:InOk Tryz.prog st (e121 isS):=in_of hx Tryz.func121 (by kernel_rfl) (by kernel_rfl) rfl (in_cons (i167 hx) (in_cons (i168 hx) (in_cons (i119 hx) (in_cons (in78 hx) no_in)))) (con_cons (csC1_ok hs) no_con)
theorem i121k:InOk Tryz.prog st e121k:=in_of hx Tryz.func121 (by kernel_rfl) (by kernel_rfl) rfl (in_cons (i167 hx) (in_cons (i168 hx) (in_cons (i119 hx) (in_cons (in78 hx) no_in)))) (con_cons (csK_ok hs) no_con)
theorem i79:InOk Tryz.prog st (e79q isS):=in_of hx Tryz.func79 (by kernel_rfl) (by kernel_rfl) rfl (in_cons (i117 hx) (in_cons (i120 hx) (in_cons (i121 hx hs) no_in))) no_con
theorem i79k:InOk Tryz.prog st e79k:=in_of hx Tryz.func79 (by kernel_rfl) (by kernel_rfl) rfl (in_cons (i117 hx) (in_cons (i120 hx) (in_cons (i121k hx hs) no_in))) no_con
theorem fqE_ok (n:Nat):EnvOk Tryz.prog st (fqE n):=envH_ok (in_cons (i79k hx hs) no_in) fun x h=>by
 obtain rfl:=List.mem_singleton.1 h;exact (prT_ok hx).z
theorem fq0_ok:EnvOk Tryz.prog st (envH Tryz.prog gl0 [e79q isS] [(34,prkC imQ false)] noLp 12 [] true):=envH_ok (in_cons (i79 hx hs) no_in) fun x h=>by
 obtain rfl:=List.mem_singleton.1 h;exact prk_ok hx
end
theorem ev_low {q:Seq}{f:Nat}(hf:f<7):Low (q.ev.getD f .any):=by
 match f,hf with
 | 0,_ | 1,_ | 2,_ | 3,_ | 4,_ | 6,_=>exact .v _
 | 5,_ =>
  refine .sl fun i f hi hf=>?_
  have e:q.c.get i f=.v (.int .i64 (q.l.getD i 0)):=(lst_at q.l hi hf).1;rw [e];exact .v _
theorem seqR_low {n:Nat}{c:DC}{qs:List Seq}(hn:c.n=qs.length) (hc:∀ i q f,qs[i]?=some q->f<7->c.get i f=q.ev.getD f .any) (s:Nat):LowR (seqR n c s):=⟨.tup fun d hd=>by
  simp only [List.mem_cons,List.not_mem_nil,or_false] at hd
  rcases hd with rfl | rfl
  ·exact .agg fun d hd=>by
    simp only [List.mem_cons,List.not_mem_nil,or_false] at hd
    rcases hd with rfl | rfl | rfl<;>exact .v _
  ·exact .os _ _ _,fun id blk hb i f hi hf=>by
  cases id with
  | succ id=>simp [seqR] at hb
  | zero =>
   obtain rfl:(⟨7,c⟩:DBlk)=blk:=Option.some.inj (Option.some.inj hb);have hi:i<c.n:=hi
   have hq:qs[i]?=some (qs[i]'(by omega)):=List.getElem?_eq_getElem (by omega)
   show Low (c.get i f);rw [hc i _ f hq hf];exact ev_low hf⟩
theorem fq_con {st:AE.Stat}{hs:List InE}{l:List (FuncId×ConF)}{m:Nat}(hE:EnvOk Tryz.prog st (envH Tryz.prog gl0 hs l noLp m [] true)) (hx:Hx st) {qs:List Seq}{c:DC}(hn:c.n=qs.length) (hg:c.good) (hc:∀ i q f,qs[i]?=some q->f<7->c.get i f=q.ev.getD f .any) {v:Int}{p s b:ByteArray}
  (h:bodyD Tryz.prog (envH Tryz.prog gl0 hs l noLp m [] true) Tryz.f36 [.agg [iv v,sv p,sv s],sv b] [] (fun d σ=>chkS qs d σ)=some ()):ConOkZ true Tryz.prog st 36 (fun a k=>bif holds (a=[.agg [iv v,sv p,sv s],sv b]) then k (seqR qs.length c) else none) :=
 con_anyK (E:=envH Tryz.prog gl0 hs l noLp m [] true) (glOk st) hE Tryz.func36 (by kernel_rfl) (by kernel_rfl) (hx 36 rfl) (fun _ _ _ h=>nomatch h) fun args k hk=>by
  obtain ⟨e,hk1⟩:=bif_none hk;obtain rfl:=holds_eq.1 e
  exact ⟨_,_,chkS qs,.self (.self .nil),hk1,seqR_low hn hc,h,fun s d σ hd=>chkS_fin hn hg hc hd s⟩
def fqA (v:Int) (p s b:ByteArray):Prop:=b=sqA/\idlF v p s=true/\p.size<=9000000/\s.size<=9000000
theorem ba_beq {p q:ByteArray}(h:(p==q)=true):p=q:=by
 cases p;cases q;exact congrArg ByteArray.mk (eq_of_beq (α:=Array UInt8) h)
theorem idl_blank {v:Int}{p s:ByteArray}(h:idlF v p s=true) (hp:prF v p s=true):v=0/\p=⟨#[]⟩/\s=⟨#[]⟩:=by
 unfold idlF at h;rw [hp] at h
 cases e1:v==0 with
 | false=>rw [e1] at h; cases h
 | true =>
  cases e2:p==(⟨#[]⟩:ByteArray) with
  | false=>rw [e1,e2] at h; cases h
  | true =>
   cases e3:s==(⟨#[]⟩:ByteArray) with
   | false=>rw [e1,e2,e3] at h; cases h
   | true=>exact ⟨by simpa using e1,ba_beq e2,ba_beq e3⟩
theorem feA_ok {st:AE.Stat}(hx:Hx st) (hs:∀ a σ,st.ext 169 a σ=RL.app σ (csX a σ.length)):ConOkZ true Tryz.prog st 36 (fqC fqA 2 (.lst (qsA.map Seq.ev))):=fun args k hk=>by
 unfold fqC at hk
 split at hk<;>first | (cases hk; done) | skip
 rename_i v p s b;obtain ⟨hb,hk1⟩:=bif_none hk;clear hk;obtain ⟨rfl,h1,h2,h3⟩:=holds_eq.1 hb
 have hc:∀ i q f,qsA[i]?=some q->f<7->(DC.lst (qsA.map Seq.ev)).get i f=q.ev.getD f .any:=fun i q f hq hf=>lst_get (by rw [List.getElem?_map,hq]; rfl) f
 cases hp:prF v p s with
 | true =>
  obtain ⟨rfl,rfl,rfl⟩:=idl_blank h1 hp;exact fq_con (fqE_ok hx hs 12) hx (qs:=qsA) (c:=.lst (qsA.map Seq.ev)) rfl trivial hc fq_A _ k (hT rfl hk1)
 | false=>exact fq_con (fq0_ok hx hs) hx (qs:=qsA) (c:=.lst (qsA.map Seq.ev)) rfl trivial hc (fq_0 v p s imQ ⟨hp,h2,h3⟩) _ k (hT rfl hk1)
def fqN (n:Nat) (v:Int) (p s b:ByteArray):Prop:=v=0/\p=⟨#[]⟩/\s=⟨#[]⟩/\b=sqB n
theorem feB_at {st:AE.Stat}(hx:Hx st) (hs:∀ a σ,st.ext 169 a σ=RL.app σ (csX a σ.length)) {n m:Nat}(h:bodyD Tryz.prog (fqE m) Tryz.f36 [.agg [iv 0,sv ⟨#[]⟩,sv ⟨#[]⟩],sv (sqB n)] [] (chkS (qsN n))=some ()):ConOkZ true Tryz.prog st 36 (fqC (fqN n) n (.tab n evU)):=fun args k hk=>by
 unfold fqC at hk
 split at hk<;>first | (cases hk; done) | skip
 rename_i v p s b;obtain ⟨hb,hk1⟩:=bif_none hk;clear hk;obtain ⟨rfl,rfl,rfl,rfl⟩:=holds_eq.1 hb;have hl:(qsN n).length=n:=List.length_replicate
 have hc:∀ i q f,(qsN n)[i]?=some q->f<7->(DC.tab n evU).get i f=q.ev.getD f .any:=fun i q f hq hf=>by
  obtain ⟨_,e⟩:=List.getElem?_eq_some_iff.1 hq
  have e:(⟨0,110,[6]⟩:Seq)=q:=by rw [<- e]; exact (List.getElem_replicate _).symm
  subst e;rfl
 exact fq_con (fqE_ok hx hs m) hx (qs:=qsN n) (c:=.tab n evU) hl.symm trivial hc h _ k (hT rfl (by rw [hl]; exact hk1))
theorem feB_ok {st:AE.Stat}(hx:Hx st) (hs:∀ a σ,st.ext 169 a σ=RL.app σ (csX a σ.length)) {n:Nat}(h1:1<=n) (h9:n<=9):ConOkZ true Tryz.prog st 36 (fqC (fqN n) n (.tab n evU)):=by
 obtain rfl | rfl | rfl | rfl | rfl | rfl | rfl | rfl | rfl:n=1\/n=2\/n=3\/n=4\/n=5\/n=6\/n=7\/n=8\/n=9:=by omega
 ·exact feB_at hx hs fq_1
 ·exact feB_at hx hs fq_2
 ·exact feB_at hx hs fq_3
 ·exact feB_at hx hs fq_4
 ·exact feB_at hx hs fq_5
 ·exact feB_at hx hs fq_6
 ·exact feB_at hx hs fq_7
 ·exact feB_at hx hs fq_8
 ·exact feB_at hx hs fq_9
end Go.Proofs.YtigmkgampfbflaaGreatDoor
namespace Go.Proofs.YtigmkgampfbflaaGreatDoor
open Go Go.AE Go.DE Go.RowKit
theorem inZ0 {st:AE.Stat}(hx:Hx st) {f:FuncId}{fn:Func}(hf:Tryz.prog.funcs[f]?=some fn) (hn:(fn.name== "runtime.NumGoroutine")=false) (hb:fn.body.isNone=false) (he:exA f=false) {hs:List InE}{l:List (FuncId×ConF)}(h:∀ e∈hs,InOkZ Tryz.prog st e) (hl:∀ x∈l,ConOkZ true Tryz.prog st x.1 x.2) :
  InOkZ Tryz.prog st ⟨f,fn,envG Tryz.prog gl0 [] hs l noLp 0⟩:=⟨hf,hn,hb,hx f he,envG_ok (fun _ h=>nomatch h) h hl,glOk st,(fun _ _ _ h=>nomatch h)⟩
theorem upd_get {c:DC}{p q i f:Nat}{d:DV}(h:f≠q):(DC.upd c p q d).get i f=c.get i f:=by
 show (if i=p/\f=q then d else c.get i f)=_
 rw [if_neg fun e=>h e.2]
end Go.Proofs.YtigmkgampfbflaaGreatDoor
namespace Go.Proofs.YtigmkgampfbflaaGreatDoor
open Go Go.AE Go.DE Go.RowKit
theorem asD_ok {st:AE.Stat}{E:Env Unit}(hE:EnvOk Tryz.prog st E) {p:Nat}(hlp:E.lp=noLp) (hmg:E.mg p=none) (c:Code):LoopSR E.gz Tryz.prog st E.gl c (asD E p c):=by
 intro τd σd k r hx C μ τ σ h
 cases c<;>first | (cases hx; done) | skip
 rename_i c a b;unfold asD at hx
 dsimp only at hx
 split at hx<;>first | (cases hx; done) | skip
 rename_i t ht;obtain ⟨hb,hx2⟩:=bif_none hx;clear hx;obtain rfl:t=true:=holds_eq.1 hb
 refine execD_some hE (.cond c a b) p (fun x _ g hg=>by rw [hlp] at hg; cases hg) h ?_
 unfold execD;simp only [hlp,noLp,ht,hmg];exact hx2
theorem nil_inZ {st:AE.Stat}:∀ e∈([]:List InE),InOkZ Tryz.prog st e:=fun _ h=>nomatch h
theorem cons_inZ {st:AE.Stat}{e:InE}{hs:List InE}(h:InOkZ Tryz.prog st e) (t:∀ x∈hs,InOkZ Tryz.prog st x):∀ x∈e :: hs,InOkZ Tryz.prog st x:=fun x hx=>by
 rcases List.mem_cons.1 hx with rfl | hx
 ·exact h
 ·exact t x hx
theorem nil_conZ {st:AE.Stat}:∀ x∈([]:List (FuncId×ConF)),ConOkZ true Tryz.prog st x.1 x.2:=fun _ h=>nomatch h
theorem cons_conZ {st:AE.Stat}{e:FuncId×ConF}{l:List (FuncId×ConF)}(h:ConOkZ true Tryz.prog st e.1 e.2) (t:∀ x∈l,ConOkZ true Tryz.prog st x.1 x.2):∀ x∈e :: l,ConOkZ true Tryz.prog st x.1 x.2:=fun x hx=>by
 rcases List.mem_cons.1 hx with rfl | hx
 ·exact h
 ·exact t x hx
structure RepOk (st:AE.Stat):Prop where
 x:∀ f,exA f=false->∀ a σ,st.ext f a σ=none
 cs:∀ a σ,st.ext 169 a σ=RL.app σ (csX a σ.length)
 cf:∀ a σ,st.ext 255 a σ=RL.app σ (cfX a)
 it:∀ a σ,st.ext 253 a σ=RL.app σ (itX a)
 ef:∀ a σ,st.ext 145 a σ=RL.app σ (effD.ans a (hp σ) σ.length)
section
variable {st:AE.Stat}(K:RepOk st)
include K
theorem in184:InOkZ Tryz.prog st (e184 toQ toR):=inZ0 K.x Tryz.func184 (by kernel_rfl) (by kernel_rfl) rfl nil_inZ (cons_conZ (bsC_ok K.x).z (cons_conZ (toC_ok K.x).z nil_conZ))
theorem in143:InOkZ Tryz.prog st (e143 toQ toR):=inZ0 K.x Tryz.func143 (by kernel_rfl) (by kernel_rfl) rfl (cons_inZ (in184 K) nil_inZ) (cons_conZ (msC_ok K.x).z (cons_conZ (alC_ok K.x) (cons_conZ (ctC_ok K.x).z nil_conZ)))
theorem in197:InOkZ Tryz.prog st (e197 toQ toR):=inZ0 K.x Tryz.func197 (by kernel_rfl) (by kernel_rfl) rfl (cons_inZ (in184 K) nil_inZ) (cons_conZ (atC_ok K.x).z nil_conZ)
theorem in220:InOkZ Tryz.prog st (e220 itQ dgS) :=
 have hE:EnvOk Tryz.prog st (E220 itQ dgS):=envG_ok (fun _ h=>nomatch h) nil_inZ (cons_conZ (itC_ok K.it).z nil_conZ)
 ⟨Tryz.func220,by kernel_rfl,by kernel_rfl,K.x 220 rfl,envG_ok (fun _ h=>nomatch h) nil_inZ (cons_conZ (itC_ok K.it).z nil_conZ),glOk st,lp_in (c0:=pieceOf Tryz.f220 15) (by kernel_rfl) (asD_ok hE rfl rfl _)⟩
theorem in194:InOkZ Tryz.prog st (e194 itQ dgS):=inZ0 K.x Tryz.func194 (by kernel_rfl) (by kernel_rfl) rfl (cons_inZ (in220 K) nil_inZ) (cons_conZ (atC_ok K.x).z nil_conZ)
theorem in85 {hs:List InE}(h:∀ e∈hs,InOkZ Tryz.prog st e):InOkZ Tryz.prog st (e85 hs) :=
 have hE:EnvOk Tryz.prog st (E85 hs):=envG_ok (fun _ h=>nomatch h) h nil_conZ
 ⟨Tryz.func85,by kernel_rfl,by kernel_rfl,K.x 85 rfl,envG_ok (fun _ h=>nomatch h) h nil_conZ,glOk st,lp_in (c0:=pieceOf Tryz.f85 3839) (by kernel_rfl) (efS_ok (E:=E85 hs) hE K.ef (fun _ _ _ h=>nomatch h))⟩
theorem in37q {hs:List InE}(h:∀ e∈hs,InOkZ Tryz.prog st e):InOkZ Tryz.prog st (e37q hs evQ):=inZ0 K.x Tryz.func37 (by kernel_rfl) (by kernel_rfl) rfl (cons_inZ (in85 K h) nil_inZ) (cons_conZ (vkS_ok K.x K.cf) nil_conZ)
end
def oneR (y:Tm):ByteArray:=({ data:=#[27,91] }:ByteArray)++dgS (Int.toNat (IntKind.wrap IntKind.i64 (y.I 6+1)))++{ data:=#[59] }++dgS (Int.toNat (IntKind.wrap IntKind.i64 (y.I 7+1)))++{ data:=#[82] }
def repN (V:ByteArray):Nat->ByteArray->ByteArray
 | 0,r=>r
 | m+1,r=>repN V m (r++V)
def curQ (y:Tm):Prop:=0<=y.I 6/\y.I 6<=1/\0<=y.I 7/\y.I 7<=2
theorem dg_size (n:Nat):(dgS n).size=1:=rfl
theorem oneR_size (y:Tm):(oneR y).size=6:=by
 unfold oneR;simp only [ByteArray.size_append,dg_size];rfl
theorem mcQ_get (y:Tm) (r r2:ByteArray) {f:Nat}(h:f≠41):(mcQ y r).getD f .any=(mcQ y r2).getD f .any:=by
 unfold mcQ;rw [List.getD_eq_getElem?_getD,List.getD_eq_getElem?_getD,List.getElem?_set_ne (Ne.symm h),List.getElem?_set_ne (Ne.symm h)]
theorem mcQ_clo (y:Tm) (r:ByteArray) (f:Nat) (hf:f<42):Clo ((mcQ y r).getD f .any):=by
 match f,hf with
 | 0,_ | 1,_ | 3,_ | 4,_ | 6,_ | 7,_ | 8,_ | 9,_ | 10,_ | 11,_ | 12,_ | 13,_ | 14,_ | 15,_ | 16,_ | 17,_ | 18,_ | 19,_ | 20,_ | 21,_ | 22,_ | 23,_ | 24,_ | 25,_ | 26,_ | 27,_ | 28,_ | 29,_ | 30,_ | 31,_ | 32,_ | 33,_ | 34,_ | 37,_ | 38,_ | 39,_ | 40,_ | 41,_=>exact .v _
 | 2,_ | 5,_ | 35,_ | 36,_=>exact .sl _ _ _ _
 | f+42,hf=>exact absurd hf (by omega)
theorem mq_sub {r0:Nat->Option Nat}{y:Tm}{r r2:ByteArray}{blk:DBlk}(hk:blk.k=42) (hn:1<=blk.c.n) (h41:blk.c.get 0 41=sv r2) (ho:∀ f,f≠41->blk.c.get 0 f=(mcQ y r).getD f .any):SubC r0 ⟨42,.lst [mcQ y r2]⟩ blk:=⟨hk.symm,hn,trivial,fun i f hi hf=>by
 have hi:i<1:=hi
 obtain rfl:i=0:=by omega
 show Sub r0 ((mcQ y r2).getD f .any) (blk.c.get 0 f)
 by_cases e:f=41
 ·subst e;rw [h41];exact .v _
 ·rw [ho f e,mcQ_get y r2 r e];exact .of_clo (mcQ_clo y r f hf)⟩
structure RpX where
 i:Nat
 r:ByteArray
def rpI (y:Tm) (n:Nat):LInv RpX where
 pre x:=x.i<=n/\n<=9/\curQ y/\x.r.size+6*(n-x.i)<=60
 m:=5
 n:=47
 ps:=[4,5,6,28,29,30]
 sd x:=[.po 1 0 0,.po 2 0 0,.po 4 0 0,.os 3 0 n,iv n,iv x.i]
 sh x:=[none,some zb1,some ⟨42,.lst [mcQ y x.r]⟩,some ⟨7,.tab n evU⟩,some prs0]
 meas x:=n-x.i
 e _:=.exit 0
 qs:=[4,5,6]
 od _:=[.po 1 0 0,.po 2 0 0,.po 4 0 0]
 oh x:=[none,some zb1,some ⟨42,.lst [mcQ y (repN (oneR y) (n-x.i) x.r)]⟩,none,some prs0]
 guess _ _:=some ⟨0,y.S 41⟩
 cps x k:=k (.exit 0) [.po 1 0 0,.po 2 0 0,.po 4 0 0] [none,some zb1,some ⟨42,.lst [mcQ y (repN (oneR y) (n-x.i) x.r)]⟩,none,some prs0]
theorem evU_clo {i f:Nat}(hf:f<7):Clo (evU i f):=by
 match f,hf with
 | 0,_ | 1,_ | 2,_ | 3,_ | 4,_ | 6,_=>exact .v _
 | 5,_=>exact .sl _ _ _ _
theorem evU_q:evQ (evS 0 110 (Seq.mk 0 110 [6]).c.get 1):=⟨0,110,_,1,rfl,by decide,by decide,rfl,.inr (.inr ⟨rfl,rfl,rfl⟩)⟩
theorem q_ls {st:AE.Stat}(K:RepOk st) (y:Tm) (n:Nat):LoopSR true Tryz.prog st gl0 (.loop (loopAt Tryz.f14 250)) (rpI y n).g:=by
 refine (rpI y n).ok (E:=envG Tryz.prog gl0 [] [e37q [e194 itQ dgS] evQ] [] noLp 0) (p:=500) (envG_ok (fun _ h=>nomatch h) (cons_inZ (in37q K (cons_inZ (in194 K) nil_inZ)) nil_inZ) nil_conZ) (glOk st).1 (fun _ _ _ h=>nomatch h) (fun x k h=>h) fun x hy=>?_
 obtain ⟨i,r⟩:=x;obtain ⟨hi,hn,hc,hsz⟩:i<=n/\n<=9/\curQ y/\r.size+6*(n-i)<=60:=hy;obtain ⟨c1,c2,c3,c4⟩:=hc;have V6:=oneR_size y;refine (q_loop y n i r zb1 prs0 evQ itQ dgS _).trans ?_;simp only [Int.toNat_natCast,Nat.add_zero,Nat.zero_add]
 refine dS (fun hlt=>?_) fun hge=>?_
 ·have hlt:i<n:=by omega
  have e6:itQ (IntKind.i64.wrap (y.I 6+1)):=by rw [W_in (by omega) (by omega)]; exact ⟨by omega,by omega⟩
  have e7:itQ (IntKind.i64.wrap (y.I 7+1)):=by rw [W_in (by omega) (by omega)]; exact ⟨by omega,by omega⟩
  have hW:IntKind.i64.wrap ((i:Int)+1)=((i+1:Nat):Int):=by rw [W_in (by omega) (by omega)]; omega
  have hr:repN (oneR y) (n-(i+1)) (r++oneR y)=repN (oneR y) (n-i) r:=by
   rw [show n-i=(n-(i+1))+1 by omega]
   rfl
  have hok:(rpI y n).pre ⟨i+1,r++oneR y⟩:=⟨hlt,hn,⟨c1,c2,c3,c4⟩,by
   show (r++oneR y).size+6*(n-(i+1))<=60;rw [ByteArray.size_append,V6];omega⟩
  have next:∀ (bM:DBlk) (ext:DHeap),SubC (ren 5 []) ⟨42,.lst [mcQ y (r++oneR y)]⟩ bM ->
    (rpI y n).ask ⟨i,r⟩ .normal 47 [.po 1 0 0,.po 2 0 0,.po 4 0 0,.os 3 0 n,iv n,iv ((i+1:Nat):Int)] [.po 1 0 0,.po 2 0 0,.po 4 0 0] (none :: some zb1 :: some bM :: some ⟨7,.tab n evU⟩ :: some prs0 :: ext)=some ():=fun bM ext hM=>by
   refine LInv.ask_of ⟨rfl,⟨i+1,r++oneR y⟩,⟨rfl,rfl,by simp only [rpI,hr],hok⟩,by simp only [rpI]; omega,[],?_⟩
   exact .of (im:=[some 1,some 2,some 3,some 4]) (.cons (.po rfl) (.cons (.po rfl) (.cons (.po rfl) (.cons (.os rfl) (.cons (.v _) (.cons (.v _) .nil)))))) rfl
    ⟨⟨1,_,rfl,rfl,zb1_kb.sub⟩,⟨2,_,rfl,rfl,hM⟩,⟨3,_,rfl,rfl,rfl,Nat.le_refl _,trivial,fun i f hi hf=>.of_clo (evU_clo hf)⟩,⟨4,_,rfl,rfl,prs0_kb.sub⟩,trivial⟩ rfl (by decide)
  rw [hW]
  refine dT (by omega) (dT hlt (dT hlt (dT hlt (dT hlt (dT hlt (dT hlt (dT hlt (hT evU_q (hT e6 (dT ?_ (dT ?_ (hT e7 (dT ?_ (dT ?_ (hT ?_ (dT ?_ (next _ _ (mq_sub (r:=r) rfl (Nat.le_refl _) rfl fun f h=>upd_get h))))))))))))))))))
  ·simp only [ByteArray.size_append,dg_size]; decide
  ·simp only [ByteArray.size_append,dg_size]; decide
  ·simp only [ByteArray.size_append,dg_size]; decide
  ·simp only [ByteArray.size_append,dg_size]; decide
  ·refine decide_eq_true ?_;have V7:=V6;unfold oneR at V7
   rw [V7,W_in (by omega) (by omega)]
   omega
  ·have V7:=V6;unfold oneR at V7;rw [V7];omega
 ·obtain rfl:n=i:=by omega
  refine LInv.ask_of ⟨rfl,rfl,[],?_⟩
  have e0:repN (oneR y) (n-n) r=r:=by rw [Nat.sub_self]; rfl
  simp only [rpI,e0]
  exact .of (im:=[some 1,some 2,some 4]) (.cons (.po rfl) (.cons (.po rfl) (.cons (.po rfl) .nil))) rfl
   ⟨⟨1,_,rfl,rfl,zb1_kb.sub⟩,⟨2,_,rfl,rfl,mq_sub (r:=r) rfl (Nat.le_refl _) rfl fun f _=>rfl⟩,⟨4,_,rfl,rfl,prs0_kb.sub⟩,trivial⟩ rfl (by decide)
end Go.Proofs.YtigmkgampfbflaaGreatDoor
namespace Go.Proofs.YtigmkgampfbflaaGreatDoor
open Go Go.AE Go.DE Go.RowKit
structure WS where
 w:Nat
 h:Nat
 x:TS
 O:Nat->Row
 T:Nat->Bool
def WS.cells (y:WS):List DV:=[iv y.w,iv y.h,.sl false (rowsD (fun _=>false) y.x.R) 1 y.h,iv y.w,iv y.h,.sl false (rowsD (fun _=>false) y.O) 1 y.h,iv y.x.r,iv y.x.c,bv y.x.p,iv 0,iv 0,bv false,iv (-1),iv (-1),iv 0,bv false,kv .u8 66,kv .u8 66,iv 0,iv (-1),iv (-1),iv 0,
 bv false,bv false,bv false,bv false,bv true,bv true,bv false,bv false,kv .u8 66,kv .u8 66,iv 0,iv 0,iv y.h,.sl false (tabsD y.T) 1 y.w,nilS,iv 0,evB,evB,evB,evB]
noncomputable def roO (Q:(Nat->Nat->DV)->Nat->Prop):ConF:=fun args k=>match args with
 | [.sl _ G 1 n]=>bif holds (Q G n) then k (fun b=>(.os b 0 n,[some ⟨1,.tab n (rowsD (fun _=>false) fun i=>rowD (G i 0))⟩])) else none
 | [.v (.slice none 0 0)]=>k (fun _=>(nilS,[]))
 | _=>none
noncomputable def feN (Q:ByteArray->ByteArray->ByteArray->Prop):ConF:=fun args k=>match args with
 | [.agg [.v (.int .i64 0),.v (.string p),.v (.string b)],.v (.string s)]=>bif holds (Q p b s) then k (fun _=>(.tup [.agg [iv 0,sv ⟨#[]⟩,sv ⟨#[]⟩],nilS],[])) else none
 | _=>none
end Go.Proofs.YtigmkgampfbflaaGreatDoor
namespace Go.Proofs.YtigmkgampfbflaaGreatDoor
open Go Go.AE Go.DE Go.RowKit
theorem cvl_at:∀ {ds es:List DV},ds.length=es.length->(∀ i,i<es.length->Cv (ds.getD i .any) (es.getD i .any))->CvL ds es
 | [],[],_,_=>.nil
 | d :: ds,e :: es,hl,h=>.cons (h 0 (Nat.zero_lt_succ _)) (cvl_at (by simpa using hl) fun i hi=>h (i+1) (by simpa using hi))
structure WS.ok (y:WS):Prop where
 t:TSok y.w y.h y.x
 o:∀ j,j<y.h->gRow y.w (y.O j)
def WS.tm (y:WS):Tm:=tmOf ((y.cells.set 36 (.sl false (rowsD (fun _=>false) fun _=>blkRow 0) 1 0)))
theorem WS.cv (y:WS):CvL y.cells (y.cells.set 36 (.sl false (rowsD (fun _=>false) fun _=>blkRow 0) 1 0)):=cvl_at rfl fun i hi=>by
 have hi:i<42:=hi
 by_cases h:i=36
 ·subst h;exact nil_sl
 ·have e:(y.cells.set 36 (.sl false (rowsD (fun _=>false) fun _=>blkRow 0) 1 0)).getD i .any=y.cells.getD i .any:=by
   rw [List.getD_eq_getElem?_getD,List.getD_eq_getElem?_getD,List.getElem?_set]
   rw [if_neg (fun e=>h e.symm)]
  rw [e]
  exact fun _ _ _ h=>h
def WS.wr (y:WS) (s:ByteArray):WS:={ y with x:=runT y.w (fun i=>byteAt s i) s.size y.x }
def feQ0 (p b s:ByteArray):Prop:=nilQ p b/\s=⟨#[]⟩
theorem feN_ok {st:AE.Stat}(hx:Hx st):ConOkZ true Tryz.prog st 36 (feN feQ0):=by
 refine con_flatE (E:=envH Tryz.prog gl0 [e78] [(34,prpC nilQ)] noLp 1 [] true) (glOk st) (envH_ok (one_in (in78 hx)) fun x h=>?_) Tryz.func36 (by kernel_rfl) (by kernel_rfl) (hx 36 rfl) (fun _ _ _ h=>nomatch h) fun args k hk=>?_
 ·obtain rfl:=List.mem_singleton.1 h;exact (prpC_ok hx).z
 unfold feN at hk
 split at hk<;>first | (cases hk; done) | skip
 rename_i p b s;obtain ⟨hb,hk0⟩:=bif_none hk;clear hk;obtain ⟨⟨rfl,rfl⟩,rfl⟩:=holds_eq.1 hb;exact ⟨[prs,sv ⟨#[]⟩],_,.self (.self .nil),flR_clo rfl,hk0,(fee_tree nilQ _).trans (hT ⟨rfl,rfl⟩ (isD_of rfl))⟩
end Go.Proofs.YtigmkgampfbflaaGreatDoor
namespace Go.Proofs.YtigmkgampfbflaaGreatDoor
open Go Go.AE Go.DE Go.RowKit
theorem wq_tree (x y:Tm) (n:Nat) (QO Q3:List DV->Prop) (QF:Int->ByteArray->ByteArray->ByteArray->Prop) (K:DV->Option Unit):bodyD Tryz.prog (envG Tryz.prog gl0 [] [] [(35,ofC QO y),(11,tcC Q3),(36,fqC QF n (.tab n evU))] (lpOf [(250,(rpI y n).g)]) 0) Tryz.f14 [.agg x.cells,sv (sqB n)] [] (fun d _=>K d) =
  bif holds (QO x.cells) then bif decide (0<y.gn) then bif holds (Q3 x.cells) then bif holds (QF (x.I 37) (x.S 38) (x.S 39) (sqB n)) then bif holds ((Nat.le 0 n/\Nat.le n 9/\(Int.NonNeg (y.I 6-0)/\Int.NonNeg (1-y.I 6)/\Int.NonNeg (y.I 7-0)/\Int.NonNeg (2-y.I 7))/\Nat.le (ByteArray.size (y.S 41)+6*(n-0)) 60)/\∃ ids,WkP (LInv.m (rpI y n)) ids [.po 1 0 0,.po 2 0 0,.po 4 0 0,.os 3 0 n,iv (n:Int),iv 0] [some ⟨42,.lst [x.cells]⟩,some ⟨42,.lst [zeroL]⟩,some ⟨42,.lst [[iv (y.I 0),iv (y.I 1),.sl false (rowsD y.gT y.gR) 1 y.gn,iv (y.I 3),iv (y.I 4),.sl false (rowsD y.oT y.oR) 1 y.on,iv (y.I 6),iv (y.I 7),bv (y.B 8),iv (y.I 9),iv (y.I 10),bv (y.B 11),iv (y.I 12),iv (y.I 13),iv (y.I 14),bv (y.B 15),kv .u8 ((y.I 16)),kv .u8 ((y.I 17)),iv (y.I 18),iv (y.I 19),iv (y.I 20),iv (y.I 21),bv (y.B 22),bv (y.B 23),bv (y.B 24),bv false,bv (y.B 26),bv (y.B 27),bv (y.B 28),bv (y.B 29),kv .u8 ((y.I 30)),kv .u8 ((y.I 31)),iv (y.I 32),iv (y.I 33),iv (y.I 34),.sl false (tabsD y.tb) 1 y.tn,.sl false (rowsD y.bT y.bR) 1 y.bn,iv (y.I 37),sv (y.S 38),sv (y.S 39),sv (y.S 40),sv (y.S 41)]]⟩,some ⟨7,.tab n evU⟩,some ⟨3,updF (.lst [[iv 0,sv ⟨#[]⟩,sv ⟨#[]⟩]]) 0 [iv 0,sv ⟨#[]⟩,sv ⟨#[]⟩]⟩] [.po 1 0 0,.po 2 0 0,.po 4 0 0,.os 3 0 n,iv (n:Int),iv 0] [none,some ⟨42,.lst [zeroL]⟩,some ⟨42,.lst [[iv (y.I 0),iv (y.I 1),.sl false (rowsD y.gT y.gR) 1 y.gn,iv (y.I 3),iv (y.I 4),.sl false (rowsD y.oT y.oR) 1 y.on,iv (y.I 6),iv (y.I 7),bv (y.B 8),iv (y.I 9),iv (y.I 10),bv (y.B 11),iv (y.I 12),iv (y.I 13),iv (y.I 14),bv (y.B 15),kv .u8 ((y.I 16)),kv .u8 ((y.I 17)),iv (y.I 18),iv (y.I 19),iv (y.I 20),iv (y.I 21),bv (y.B 22),bv (y.B 23),bv (y.B 24),bv false,bv (y.B 26),bv (y.B 27),bv (y.B 28),bv (y.B 29),kv .u8 ((y.I 30)),kv .u8 ((y.I 31)),iv (y.I 32),iv (y.I 33),iv (y.I 34),.sl false (tabsD y.tb) 1 y.tn,.sl false (rowsD y.bT y.bR) 1 y.bn,iv (y.I 37),sv (y.S 38),sv (y.S 39),sv (y.S 40),sv (y.S 41)]]⟩,some ⟨7,.tab n evU⟩,some ⟨3,.lst [[iv 0,sv ⟨#[]⟩,sv ⟨#[]⟩]]⟩])
  then K (.agg [iv (y.I 0),iv (y.I 1),.sl false (rowsD y.gT y.gR) 1 y.gn,iv (y.I 3),iv (y.I 4),.sl false (rowsD y.oT y.oR) 1 y.on,iv (y.I 6),iv (y.I 7),bv (y.B 8),iv (y.I 9),iv (y.I 10),bv (y.B 11),iv (y.I 12),iv (y.I 13),iv (y.I 14),bv (y.B 15),kv .u8 ((y.I 16)),kv .u8 ((y.I 17)),iv (y.I 18),iv (y.I 19),iv (y.I 20),iv (y.I 21),bv (y.B 22),bv (y.B 23),bv (y.B 24),bv false,bv (y.B 26),bv (y.B 27),bv (y.B 28),bv (y.B 29),kv .u8 ((y.I 30)),kv .u8 ((y.I 31)),iv (y.I 32),iv (y.I 33),iv (y.I 34),.sl false (tabsD y.tb) 1 y.tn,.sl false (rowsD y.bT y.bR) 1 y.bn,iv 0,sv ⟨#[]⟩,sv ⟨#[]⟩,sv (y.S 40),sv (repN (oneR y) (n-0) (y.S 41))])
  else none else none else none else none else none:=by
 kernel_rfl
noncomputable def feM (Q:Int->ByteArray->ByteArray->ByteArray->Prop):ConF:=fun args k=>match args with
 | [.agg [.v (.int .i64 v),.v (.string p),.v (.string b)],.v (.string s)]=>bif holds (Q v p b s) then k (fun _=>(.tup [.agg [iv 0,sv ⟨#[]⟩,sv ⟨#[]⟩],nilS],[])) else none
 | _=>none
theorem wq0_tree (x y:Tm) (QO Q3:List DV->Prop) (QF:Int->ByteArray->ByteArray->ByteArray->Prop) (K:DV->Option Unit):bodyD Tryz.prog (envG Tryz.prog gl0 [] [] [(35,ofC QO y),(11,tcC Q3),(36,feM QF)] noLp 1) Tryz.f14 [.agg x.cells,sv ⟨#[]⟩] [] (fun d _=>K d) =
  bif holds (QO x.cells) then bif decide (0<y.gn) then bif holds (Q3 x.cells) then bif holds (QF (x.I 37) (x.S 38) (x.S 39) { data:=#[] }) then K (.agg [iv (y.I 0),iv (y.I 1),.sl false (rowsD y.gT y.gR) 1 y.gn,iv (y.I 3),iv (y.I 4),.sl false (rowsD y.oT y.oR) 1 y.on,iv (y.I 6),iv (y.I 7),bv (y.B 8),iv (y.I 9),iv (y.I 10),bv (y.B 11),iv (y.I 12),iv (y.I 13),iv (y.I 14),bv (y.B 15),kv .u8 ((y.I 16)),kv .u8 ((y.I 17)),iv (y.I 18),iv (y.I 19),iv (y.I 20),iv (y.I 21),bv (y.B 22),bv (y.B 23),bv (y.B 24),bv false,bv (y.B 26),bv (y.B 27),bv (y.B 28),bv (y.B 29),kv .u8 ((y.I 30)),kv .u8 ((y.I 31)),iv (y.I 32),iv (y.I 33),iv (y.I 34),.sl false (tabsD y.tb) 1 y.tn,.sl false (rowsD y.bT y.bR) 1 y.bn,iv 0,sv ⟨#[]⟩,sv ⟨#[]⟩,sv (y.S 40),sv (y.S 41)])
  else none else none else none else none:=by
 kernel_rfl
end Go.Proofs.YtigmkgampfbflaaGreatDoor
