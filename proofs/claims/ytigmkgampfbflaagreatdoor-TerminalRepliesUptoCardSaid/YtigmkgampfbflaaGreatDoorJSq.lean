/-
 The parser's Feed at sequences: a checker of the evaluator's end,run by the kernel.
 Conditions: none beyond those of the contracts.
-/
import Derived.Test.YtigmkgampfbflaaGreatDoorJFt
import Derived.Test.YtigmkgampfbflaaGreatDoorJUtf
import Derived.Test.YtigmkgampfbflaaGreatDoorJPe
import Derived.Test.YtigmkgampfbflaaGreatDoorJOwn
namespace Go.Proofs.YtigmkgampfbflaaGreatDoor
open Go Go.AE Go.DE Go.RowKit
def byt (s:ByteArray) (l:List Nat):Bool:=Nat.beq s.size l.length&&(l.zipIdx.all fun x=>decide (byteAt s x.2=(x.1:Int)))
noncomputable def csK:ConF:=fun args k=>match args with
 | [.v (.string s)]=>bif byt s [63,54] then k (csR 63 [6]) else bif byt s [50,59,51] then k (csR 0 [2,3]) else bif byt s [54] then k (csR 0 [6]) else none
 | _=>none
theorem byt_eq {s:ByteArray}{l:List Nat}(hl:∀ x∈l,x<256) (h:byt s l=true):s=⟨⟨l.map fun x=>UInt8.ofNat x⟩⟩:=by
 unfold byt at h;rw [Bool.and_eq_true] at h;have hs:s.size=l.length:=Nat.eq_of_beq_eq_true h.1;have ha:=List.all_eq_true.1 h.2;refine bytes_ext ?_
 apply List.ext_getElem?
 intro i
 show s.data.toList[i]?=(l.map fun x=>UInt8.ofNat x)[i]?
 have hsl:s.data.toList.length=l.length:=by rw [Array.length_toList]; exact hs
 by_cases hi:i<l.length
 ·have hx:=ha (l[i],i) (List.mem_zipIdx_iff_getElem?.2 (by simp [hi]))
  have hx:byteAt s i=(l[i]:Int):=of_decide_eq_true hx;have hlt:=hl l[i] (List.getElem_mem hi);unfold byteAt at hx
  rw [List.getD_eq_getElem?_getD,List.getElem?_eq_getElem (by omega)] at hx
  rw [List.getElem?_eq_getElem (by omega),List.getElem?_map,List.getElem?_eq_getElem hi]
  show some _=some (UInt8.ofNat l[i])
  congr 1
  apply UInt8.toNat_inj.1
  have hx:((s.data.toList[i]'(by omega)).toNat:Int)=(l[i]:Int):=hx
  rw [show (UInt8.ofNat l[i]).toNat=l[i] % 256 from rfl,Nat.mod_eq_of_lt hlt]
  exact_mod_cast hx
 ·rw [List.getElem?_eq_none (by omega),List.getElem?_eq_none (by simp; omega)]
theorem csK_ok {st:AE.Stat}(h:∀ a σ,st.ext 169 a σ=RL.app σ (csX a σ.length)) {z:Bool}:ConOkZ z Tryz.prog st 169 csK:=by
 intro args k hk;unfold csK at hk
 split at hk<;>first | (cases hk; done) | skip
 rename_i s
 rcases bif_some hk with ⟨h1,hk1⟩ | ⟨h1,hk1⟩
 ·obtain rfl:s=csA:=byt_eq (by decide) h1
  exact csC1_ok (z:=z) h [.v (.string csA)] k (hT rfl hk1)
 rcases bif_some hk1 with ⟨h1,hk2⟩ | ⟨h1,hk2⟩
 ·obtain rfl:s=csB:=byt_eq (by decide) h1
  exact csC1_ok (z:=z) h [.v (.string csB)] k (hT rfl hk2)
 rcases bif_some hk2 with ⟨h1,hk3⟩ | ⟨h1,hk3⟩
 ·obtain rfl:s=csC:=byt_eq (by decide) h1
  exact csC1_ok (z:=z) h [.v (.string csC)] k (hT rfl hk3)
 ·cases hk3
structure Seq where
 p:Int
 cd:Int
 l:List Int
def Seq.c (q:Seq):DC:=.lst (q.l.map fun x=>[.v (.int .i64 x)])
def Seq.ev (q:Seq):List DV:=evS q.p q.cd q.c.get q.l.length
def isN (d:DV) (q:IntKind) (x:Int):Bool:=match d,q with
 | .v (.int .i64 y),.i64=>decide (y=x)
 | .v (.int .i32 y),.i32=>decide (y=x)
 | .v (.int .u8 y),.u8=>decide (y=x)
 | _,_=>false
def isE (d:DV):Bool:=match d with
 | .v (.string s)=>Nat.beq s.size 0
 | _=>false
def rowsI:List (List DV)->List Int->Bool
 | [],[]=>true
 | [d] :: r,x :: l=>isN d .i64 x&&rowsI r l
 | _,_=>false
def chkP (σ:DHeap) (id:Nat) (d:DV) (l:List Int):Bool:=match d with
 | .os j 0 n=>(match σ[j]? with
  | some (some ⟨1,.lst rows⟩)=>rowsI rows l&&Nat.beq n l.length&&!Nat.beq j id
  | _=>false)
 | _=>false
def chkV (σ:DHeap) (id:Nat) (row:List DV) (q:Seq):Bool:=match row with
 | [a,b,c,d,e,f,g]=>isN a .i64 4&&isN b .i32 0&&isN c .u8 q.cd&&isN d .u8 q.p&&isE e&&chkP σ id f q.l&&isE g
 | _=>false
def chkR (σ:DHeap) (id:Nat):List (List DV)->List Seq->Bool
 | [],[]=>true
 | row :: r,q :: l=>chkV σ id row q&&chkR σ id r l
 | _,_=>false
def chkS (qs:List Seq) (d:DV) (σ:DHeap):Option Unit:=match d with
 | .tup [.agg [a,b,c],.os id 0 n]=>(match σ[id]? with
  | some (some ⟨7,.lst rows⟩)=>bif isN a .i64 0&&isE b&&isE c&&Nat.beq n qs.length&&chkR σ id rows qs then some () else none
  | _=>none)
 | _=>none
def sqB (n:Nat):ByteArray:=⟨⟨sqL n⟩⟩
def qsN (n:Nat):List Seq:=List.replicate n ⟨0,110,[6]⟩
noncomputable def prT:ConF:=fun args k=>match args with
 | [.agg [.v (.int .i64 0),.v (.string p),.v (.string s)]]=>bif Nat.beq p.size 0&&Nat.beq s.size 0 then k (fun _=>(bv true,[])) else none
 | _=>none
noncomputable abbrev e121k:InE:=⟨121,Tryz.f121,envH Tryz.prog gl0 [e167,e168,e119,e78] [(169,csK)] noLp 0⟩
noncomputable abbrev e79k:InE:=⟨79,Tryz.f79,envH Tryz.prog gl0 [e117q,e120,e121k] [] noLp 0⟩
noncomputable abbrev fqE (n:Nat):Env Unit:=envH Tryz.prog gl0 [e79k] [(34,prT)] noLp n [] true
theorem fq_1:bodyD Tryz.prog (fqE 5) Tryz.f36 [.agg [iv 0,sv ⟨#[]⟩,sv ⟨#[]⟩],sv (sqB 1)] [] (chkS (qsN 1))=some ():=by kernel_rfl
theorem fq_2:bodyD Tryz.prog (fqE 9) Tryz.f36 [.agg [iv 0,sv ⟨#[]⟩,sv ⟨#[]⟩],sv (sqB 2)] [] (chkS (qsN 2))=some ():=by kernel_rfl
theorem fq_3:bodyD Tryz.prog (fqE 13) Tryz.f36 [.agg [iv 0,sv ⟨#[]⟩,sv ⟨#[]⟩],sv (sqB 3)] [] (chkS (qsN 3))=some ():=by kernel_rfl
theorem fq_4:bodyD Tryz.prog (fqE 17) Tryz.f36 [.agg [iv 0,sv ⟨#[]⟩,sv ⟨#[]⟩],sv (sqB 4)] [] (chkS (qsN 4))=some ():=by kernel_rfl
theorem fq_5:bodyD Tryz.prog (fqE 21) Tryz.f36 [.agg [iv 0,sv ⟨#[]⟩,sv ⟨#[]⟩],sv (sqB 5)] [] (chkS (qsN 5))=some ():=by kernel_rfl
theorem fq_6:bodyD Tryz.prog (fqE 25) Tryz.f36 [.agg [iv 0,sv ⟨#[]⟩,sv ⟨#[]⟩],sv (sqB 6)] [] (chkS (qsN 6))=some ():=by kernel_rfl
theorem fq_7:bodyD Tryz.prog (fqE 29) Tryz.f36 [.agg [iv 0,sv ⟨#[]⟩,sv ⟨#[]⟩],sv (sqB 7)] [] (chkS (qsN 7))=some ():=by kernel_rfl
theorem fq_8:bodyD Tryz.prog (fqE 33) Tryz.f36 [.agg [iv 0,sv ⟨#[]⟩,sv ⟨#[]⟩],sv (sqB 8)] [] (chkS (qsN 8))=some ():=by kernel_rfl
theorem fq_9:bodyD Tryz.prog (fqE 37) Tryz.f36 [.agg [iv 0,sv ⟨#[]⟩,sv ⟨#[]⟩],sv (sqB 9)] [] (chkS (qsN 9))=some ():=by kernel_rfl
def qsA:List Seq:=[⟨63,108,[6]⟩,⟨0,72,[2,3]⟩]
theorem fq_A:bodyD Tryz.prog (fqE 12) Tryz.f36 [.agg [iv 0,sv ⟨#[]⟩,sv ⟨#[]⟩],sv sqA] [] (chkS qsA)=some ():=by kernel_rfl
theorem fq_0 (v:Int) (p s:ByteArray) (Q:Int->ByteArray->ByteArray->Prop) (hq:Q v p s):bodyD Tryz.prog (envH Tryz.prog gl0 [e79q isS] [(34,prkC Q false)] noLp 12 [] true) Tryz.f36 [.agg [iv v,sv p,sv s],sv ⟨⟨[27,91,63,54,108,27,91,50,59,51,72]⟩⟩] [] (fun d σ=>chkS qsA d σ)=some () :=
 (fa0_tree v p s Q isS _).trans (hT hq (hT (by show _=_; kernel_rfl) (hT (by show _=_; kernel_rfl) (by kernel_rfl))))
end Go.Proofs.YtigmkgampfbflaaGreatDoor
namespace Go.Proofs.YtigmkgampfbflaaGreatDoor
open Go Go.AE Go.DE Go.RowKit
theorem subZ_tup {r:Nat->Option Nat}{zs:Nat->Option DBlk}{ds2 ds:List DV}(h:SubLZ r zs ds2 ds):SubZ r zs (.tup ds2) (.tup ds):=fun C μ x hF hx=>by
 cases hx with
 | tup _ vs h1 h2 =>
  have:=h.drl (C:=C) (μ:=μ) hF (xs:=vs.toList) ⟨by simpa using h1,fun i d x hd hx=>h2 i d x hd (by simpa using hx)⟩
  exact .tup _ _ (by simpa using this.1) fun i d x hd hx=>this.2 i d x hd (by simpa using hx)
def seqR (n:Nat) (c:DC):DE.Res:=fun b=>(.tup [.agg [iv 0,sv ⟨#[]⟩,sv ⟨#[]⟩],.os b 0 n],[some ⟨7,c⟩])
theorem isN_eq {d:DV}{q:IntKind}{x:Int}(h:isN d q x=true):d=.v (.int q x):=by
 unfold isN at h
 split at h<;>first | (cases h; done) | (have h:=of_decide_eq_true h; rw [h])
theorem isE_eq {d:DV}(h:isE d=true):d=sv ⟨#[]⟩:=by
 unfold isE at h
 split at h<;>first | (cases h; done) | skip
 rename_i s;have h:=Nat.eq_of_beq_eq_true h
 have e:s=⟨#[]⟩:=bytes_ext (List.eq_nil_of_length_eq_zero (by rw [Array.length_toList]; exact h))
 rw [e]
theorem rowsI_eq:∀ {rows:List (List DV)}{l:List Int},rowsI rows l=true->rows=l.map fun x=>[.v (.int .i64 x)]
 | [],[],_=>rfl
 | [d] :: r,x :: l,h=>by
  unfold rowsI at h;rw [Bool.and_eq_true] at h;rw [isN_eq h.1,rowsI_eq h.2];rfl
 | [],_ :: _,h=>by cases h
 | [] :: _,_,h=>by unfold rowsI at h; cases h
 | (_ :: _ :: _) :: _,_,h=>by unfold rowsI at h; cases h
 | [_] :: _,[],h=>by unfold rowsI at h; cases h
def osId:DV->Nat
 | .os j _ _=>j
 | _=>0
def pids:List (List DV)->List Nat
 | []=>[]
 | row :: r=>osId (row.getD 5 .any) :: pids r
theorem chkP_eq {σ:DHeap}{id:Nat}{d:DV}{l:List Int}(h:chkP σ id d l=true):d=.os (osId d) 0 l.length/\σ[osId d]?=some (some ⟨1,.lst (l.map fun x=>[.v (.int .i64 x)])⟩)/\osId d≠id:=by
 unfold chkP at h
 split at h<;>first | (cases h; done) | skip
 rename_i j n
 split at h<;>first | (cases h; done) | skip
 rename_i rows hr;rw [Bool.and_eq_true,Bool.and_eq_true] at h;obtain ⟨⟨h1,h2⟩,h3⟩:=h;rw [rowsI_eq h1] at hr;have h2:=Nat.eq_of_beq_eq_true h2;subst h2
 exact ⟨rfl,hr,fun e=>by rw [show j=id from e] at h3; simp at h3⟩
structure VOk (σ:DHeap) (id:Nat) (row:List DV) (q:Seq):Prop where
 e:row=[iv 4,kv .i32 0,kv .u8 q.cd,kv .u8 q.p,sv ⟨#[]⟩,.os (osId (row.getD 5 .any)) 0 q.l.length,sv ⟨#[]⟩]
 b:σ[osId (row.getD 5 .any)]?=some (some ⟨1,q.c⟩)
 n:osId (row.getD 5 .any)≠id
theorem chkV_eq {σ:DHeap}{id:Nat}{row:List DV}{q:Seq}(h:chkV σ id row q=true):VOk σ id row q:=by
 unfold chkV at h
 split at h<;>first | (cases h; done) | skip
 rename_i a b c d e f g;simp only [Bool.and_eq_true] at h;obtain ⟨⟨⟨⟨⟨⟨h1,h2⟩,h3⟩,h4⟩,h5⟩,h6⟩,h7⟩:=h;obtain ⟨p1,p2,p3⟩:=chkP_eq h6;refine ⟨?_,p2,p3⟩;rw [isN_eq h1,isN_eq h2,isN_eq h3,isN_eq h4,isE_eq h5,isE_eq h7];show [_,_,_,_,_,f,_]=[_,_,_,_,_,.os (osId f) 0 q.l.length,_];rw [<- p1]
theorem chkR_eq {σ:DHeap}{id:Nat}:∀ {rows:List (List DV)}{qs:List Seq},chkR σ id rows qs=true->rows.length=qs.length/\∀ (i:Nat) row q,rows[i]?=some row->qs[i]?=some q->VOk σ id row q
 | [],[],_=>⟨rfl,fun i row q h=>by simp at h⟩
 | row :: r,q :: l,h=>by
  unfold chkR at h;rw [Bool.and_eq_true] at h;obtain ⟨h1,h2⟩:=chkR_eq h.2
  refine ⟨by simp [h1],fun i row' q' hr hq=>?_⟩
  cases i with
  | zero =>
   obtain rfl:row=row':=by simpa using hr
   obtain rfl:q=q':=by simpa using hq
   exact chkV_eq h.1
  | succ i=>exact h2 i row' q' (by simpa using hr) (by simpa using hq)
 | [],_ :: _,h=>by cases h
 | _ :: _,[],h=>by unfold chkR at h; cases h
theorem pids_at:∀ {rows:List (List DV)}{j:Nat},j∈pids rows->∃ (i:Nat) (row:List DV),rows[i]?=some row/\j=osId (row.getD 5 .any)
 | [],_,h=>nomatch h
 | row :: r,j,h=>by
  rcases List.mem_cons.1 h with h | h
  ·exact ⟨0,row,rfl,h⟩
  ·obtain ⟨i,row',h1,h2⟩:=pids_at h
   exact ⟨i+1,row',by rw [List.getElem?_cons_succ]; exact h1,h2⟩
theorem pids_mem:∀ {rows:List (List DV)}{i:Nat}{row:List DV},rows[i]?=some row->osId (row.getD 5 .any)∈pids rows
 | [],i,row,h=>by simp at h
 | r0 :: r,0,row,h=>by
  obtain rfl:r0=row:=by simpa using h
  exact .head _
 | r0 :: r,i+1,row,h=>.tail _ (pids_mem (by simpa using h))
theorem lst_get {rows:List (List DV)}{i:Nat}{row:List DV}(h:rows[i]?=some row) (f:Nat):(DC.lst rows).get i f=row.getD f .any:=by
 show (rows.getD i []).getD f .any=_
 rw [show rows.getD i []=row by rw [List.getD_eq_getElem?_getD,h]; rfl]
theorem chkS_fin {qs:List Seq}{c:DC}(hn:c.n=qs.length) (hg:c.good) (hc:∀ i q f,qs[i]?=some q->f<7->c.get i f=q.ev.getD f .any) {d:DV}{σ:DHeap}(h:chkS qs d σ=some ()) (s:Nat):FinZ s (seqR qs.length c s) d σ:=by
 unfold chkS at h
 split at h<;>first | (cases h; done) | skip
 rename_i a b c1 id n
 split at h<;>first | (cases h; done) | skip
 rename_i rows hb;obtain ⟨h,-⟩:=bif_none h;simp only [Bool.and_eq_true] at h;obtain ⟨⟨⟨⟨h1,h2⟩,h3⟩,h4⟩,h5⟩:=h;obtain ⟨hl,hv⟩:=chkR_eq h5;have h4:=Nat.eq_of_beq_eq_true h4;subst h4;rw [isN_eq h1,isE_eq h2,isE_eq h3]
 have at2:∀ {i:Nat},i<qs.length->∃ row q,rows[i]?=some row/\qs[i]?=some q/\VOk σ id row q:=fun {i} hi=>by
  have hr:i<rows.length:=by omega
  exact ⟨rows[i],qs[i],List.getElem?_eq_getElem hr,List.getElem?_eq_getElem hi,hv i _ _ (List.getElem?_eq_getElem hr) (List.getElem?_eq_getElem hi)⟩
 refine finZ_gen (id:=id) (blk:=⟨7,.lst rows⟩) (pids rows) (subZ_tup (.cons ?_ (.cons ?_ .nil))) (fun hm=>?_) hb rfl ?_ hg (fun i f hi hf=>?_) fun j hj blk hjb i f hi hf=>?_
 ·exact (SubL.agg (.cons (.v _) (.cons (.v _) (.cons (.v _) .nil)))).z
 ·exact (Sub.os (by simp)).z
 ·obtain ⟨i,row,hr,e⟩:=pids_at hm
  obtain ⟨q,hq⟩:∃ q,qs[i]?=some q:=⟨_,List.getElem?_eq_getElem (by rw [<- hl]; exact (List.getElem?_eq_some_iff.1 hr).1)⟩
  exact (hv i row q hr hq).n e.symm
 ·show c.n<=rows.length;rw [hn,hl];exact Nat.le_refl _
 ·have hi:i<qs.length:=by rw [<- hn]; exact hi
  obtain ⟨row,q,hr,hq,ok⟩:=at2 hi;have hf:f<7:=hf;have e2:c.get i f=q.ev.getD f .any:=hc i q f hq hf;show SubZ _ _ (c.get i f) ((DC.lst rows).get i f);rw [e2,lst_get hr,ok.e]
  have hz:zf σ (pids rows) (osId (row.getD 5 .any))=some ⟨1,q.c⟩:=by
   unfold zf;rw [if_pos (pids_mem hr),ok.b];rfl
  match f,hf with
  | 0,_=>exact (Sub.v _).z
  | 1,_=>exact (Sub.v _).z
  | 2,_=>exact (Sub.v _).z
  | 3,_=>exact (Sub.v _).z
  | 4,_=>exact (Sub.v _).z
  | 5,_=>exact SubZ.fz0 (c:=q.c) hz (by show q.l.length<=(q.l.map fun x=>[DV.v (.int .i64 x)]).length; rw [List.length_map]; exact Nat.le_refl _) fun _ _=>rfl
  | 6,_=>exact (Sub.v _).z
 ·obtain ⟨i2,row,hr,e⟩:=pids_at hj
  obtain ⟨q,hq⟩:∃ q,qs[i2]?=some q:=⟨_,List.getElem?_eq_getElem (by rw [<- hl]; exact (List.getElem?_eq_some_iff.1 hr).1)⟩
  have ok:=hv i2 row q hr hq;subst e;rw [ok.b] at hjb;obtain rfl:(⟨1,q.c⟩:DBlk)=blk:=Option.some.inj (Option.some.inj hjb)
  have hi:i<q.l.length:=by
   have:i<(q.l.map fun x=>[DV.v (.int .i64 x)]).length:=hi
   simpa using this
  rw [show (DBlk.mk 1 q.c).c.get i f=_ from (lst_at q.l hi hf).1];exact .v _
end Go.Proofs.YtigmkgampfbflaaGreatDoor
namespace Go.Proofs.YtigmkgampfbflaaGreatDoor
open Go Go.AE Go.DE Go.RowKit
noncomputable def mpC (Q:Int->Int->Int->Prop):ConF:=fun args k=>match args with
 | [.agg [.v (.bool _),.v (.bool _),.v (.bool _),.v (.bool _),.v (.bool _),.v (.bool _),.v (.bool _),.v (.bool _),.v (.int .u8 x),.v (.int .u8 y),.v (.int .i64 z)],.v (.int .i32 r)]=>bif holds (Q x y z) then k (fun _=>(kv .i32 r,[])) else none
 | _=>none
theorem nb {a b:Nat}(h:¬ a=b):Nat.beq a b=false:=by
 cases hb:Nat.beq a b with
 | false=>rfl
 | true=>exact absurd (Nat.eq_of_beq_eq_true hb) h
noncomputable def bsC:ConF:=fun args k=>match args with
 | [.pf _ G 42 1 0 0]=>match G 0 0,G 0 1,G 0 33,G 0 34,G 0 25 with
  | .v (.int .i64 w),.v (.int .i64 h),.v (.int .i64 a),.v (.int .i64 b),.v (.bool o)=>k (fun _=>(.agg [iv w,iv h,iv a,iv b,bv o],[]))
  | _,_,_,_,_=>none
 | _=>none
def g5 (w h a b:Int) (o:Bool):Nat->Nat->DV:=fun _ f=>bif Nat.beq f 0 then iv w else bif Nat.beq f 1 then iv h else bif Nat.beq f 33 then iv a else bif Nat.beq f 34 then iv b else bif Nat.beq f 25 then bv o else .any
theorem bs_tree (t:Bool) (w h a b:Int) (o:Bool) (k:DV->Option Unit):bodyD Tryz.prog (env [] noLp 0) Tryz.f140 [.pf t (g5 w h a b o) 42 1 0 0] [] (fun d _=>k d) =
  k (.agg [iv w,iv h,iv a,iv b,bv o]):=by
 kernel_rfl
theorem bsC_ok {st:AE.Stat}(hx:Hx st):ConOk Tryz.prog st 140 bsC:=by
 refine con_flat (mg:=[]) (l:=[]) (lp:=noLp) (n:=0) (glOk st) (fun _ h=>nomatch h) Tryz.func140 (by kernel_rfl) (by kernel_rfl) (hx 140 rfl) (fun _ _ _ h=>nomatch h) fun args k hk=>?_
 unfold bsC at hk
 split at hk<;>first | (cases hk; done) | skip
 rename_i t G
 split at hk<;>first | (cases hk; done) | skip
 rename_i w h a b o h0 h1 h2 h3 h4
 refine ⟨[.pf t (g5 w h a b o) 42 1 0 0],_,.cons (Cv.pf fun i f hi hf=>?_) .nil,agg_clo rfl,hk,(bs_tree t w h a b o _).trans (isD_of rfl)⟩
 obtain rfl:i=0:=by omega
 unfold g5
 by_cases e0:f=0
 ·subst e0; exact .of h0
 by_cases e1:f=1
 ·subst e1; exact .of h1
 by_cases e2:f=33
 ·subst e2; exact .of h2
 by_cases e3:f=34
 ·subst e3; exact .of h3
 by_cases e4:f=25
 ·subst e4; exact .of h4
 rw [nb e0,nb e1,nb e2,nb e3,nb e4]
 exact fun C μ v _=>.any v
end Go.Proofs.YtigmkgampfbflaaGreatDoor
namespace Go.Proofs.YtigmkgampfbflaaGreatDoor
open Go Go.AE Go.DE Go.RowKit
noncomputable abbrev e261 (M:Int->Int->Int->Int):InE:=⟨261,Tryz.f261,envH Tryz.prog gl0 [] [(159,lmC M)] noLp 0⟩
theorem to_tree (r c a b w h t u:Int) (p o:Bool) (Q:Int->Int->Int->Int->Prop) (L:Int->Int->Int) (Q2:Int->Int->Int->Int->Prop) (M:Int->Int->Int->Int) (k:DV->Option Unit):bodyD Tryz.prog (envH Tryz.prog gl0 [e178 Q L Q2 [e261 M]] [] noLp 0) Tryz.f249 [.agg [iv r,iv c,bv p],iv a,iv b,.agg [iv w,iv h,iv t,iv u,bv o]] [] (fun d _=>k d) =
  bif holds (Q w h t u) then bif holds (Q2 r c w h) then bif o then k (.agg [iv (M (IntKind.wrap .i64 (t+IntKind.wrap .i64 (M a 1 1000-1))) t (IntKind.wrap .i64 (u-1))),iv (M (IntKind.wrap .i64 (M b 1 1000-1)) 0 (IntKind.wrap .i64 (w-1))),bv false])
  else k (.agg [iv (M (IntKind.wrap .i64 (M a 1 1000-1)) 0 (IntKind.wrap .i64 (h-1))),iv (M (IntKind.wrap .i64 (M b 1 1000-1)) 0 (IntKind.wrap .i64 (w-1))),bv false]) else none else none:=by
 kernel_rfl
noncomputable abbrev e248:InE:=⟨248,Tryz.f248,envH Tryz.prog gl0 [] [] noLp 0⟩
theorem mst_tree (b0 b1 b2 b3 b4 b5 b6 b7 v:Bool) (x y z:Int) (t:Bool) (k:DV->Option Unit):bodyD Tryz.prog (envH Tryz.prog gl0 [e248] [] noLp 2) Tryz.f183 [.agg [bv b0,bv b1,bv b2,bv b3,bv b4,bv b5,bv b6,bv b7,kv .u8 x,kv .u8 y,iv z],kv .u8 63,.sl t (fun _ _=>iv 6) 1 1,bv v] [] (fun d _=>k d) =
  k (.agg [bv b0,bv b1,bv b2,bv v,bv b4,bv b5,bv b6,bv b7,kv .u8 x,kv .u8 y,iv z]):=by
 kernel_rfl
theorem at_tree (t:Bool) (g:Nat->Int) (n i d:Nat) (k:DV->Option Unit):bodyD Tryz.prog (envH Tryz.prog gl0 [] [] noLp 0) Tryz.f192 [.sl t (fun i _=>iv (g i)) 1 n,iv i,iv d] [] (fun d _=>k d) =
  bif decide ((i:Int) >= (n:Int)) then k (iv (d:Int)) else bif decide ((i:Int)<(n:Int)) then bif decide (tN i<n) then bif decide (g (tN i)<=0) then k (iv (d:Int)) else bif decide ((i:Int)<(n:Int))
  then bif decide (tN i<n) then k (iv (g (tN i))) else none else none else none else none:=by
 kernel_rfl
theorem al_tree (K:DV->DHeap->Option Unit):bodyD Tryz.prog (envH Tryz.prog gl0 [] [] noLp 0) Tryz.f186 [] [] (fun d σ=>K d σ) =
  K (.os 0 0 3) [some ⟨1,.lst [[iv 47],[iv 1047],[iv 1049]]⟩]:=by
 kernel_rfl
noncomputable abbrev e250:InE:=⟨250,Tryz.f250,envH Tryz.prog gl0 [] [] noLp 4⟩
def alW:Nat->Int
 | 0=>47
 | 1=>1047
 | _=>1049
theorem ctn_tree (t:Bool) (k:DV->Option Unit):bodyD Tryz.prog (envH Tryz.prog gl0 [e250] [] noLp 0) Tryz.f185 [.sl t (fun i _=>iv (alW i)) 1 3,iv 6] [] (fun d _=>k d) =
  k (bv (decide ((-1:Int) >= 0))):=by
 kernel_rfl
end Go.Proofs.YtigmkgampfbflaaGreatDoor
namespace Go.Proofs.YtigmkgampfbflaaGreatDoor
open Go Go.AE Go.DE Go.RowKit
theorem in261 {st:AE.Stat}(hx:Hx st):InOk Tryz.prog st (e261 lm3):=⟨Tryz.func261,by kernel_rfl,by kernel_rfl,hx 261 rfl,envH_ok (fun _ h=>nomatch h) (fun x h=>by
 obtain rfl:=List.mem_singleton.1 h
 exact lmC_ok hx),glOk st,(fun _ _ _ h=>nomatch h),rfl⟩
def toR (a h:Int):Int:=if a<=h then a-1 else h-1
def toQ (r c a b w h t u:Int):Prop:=curOk r c w h/\bndOk w h t u/\1<=a/\a<=9/\1<=b/\b<=9
noncomputable def toC (Q:Int->Int->Int->Int->Int->Int->Int->Int->Prop) (R:Int->Int->Int):ConF:=fun args k=>match args with
 | [.agg [.v (.int .i64 r),.v (.int .i64 c),.v (.bool _)],.v (.int .i64 a),.v (.int .i64 b),.agg [.v (.int .i64 w),.v (.int .i64 h),.v (.int .i64 t),.v (.int .i64 u),.v (.bool false)]]=>bif holds (Q r c a b w h t u) then k (fun _=>(.agg [iv (R a h),iv (R b w),bv false],[])) else none
 | _=>none
theorem lm3_to {a h:Int}(h1:1<=a) (h2:a<=9) (h3:1<=h) (h4:h<=132):lm3 (IntKind.i64.wrap (lm3 a 1 1000-1)) 0 (IntKind.i64.wrap (h-1))=toR a h:=by
 have e1:lm3 a 1 1000=a:=by
  unfold lm3
  split<;>split<;>omega
 rw [e1,W_in (by omega) (by omega),W_in (by omega) (by omega)]
 unfold lm3 toR
 split<;>split<;>split<;>omega
theorem toC_ok {st:AE.Stat}(hx:Hx st):ConOk Tryz.prog st 249 (toC toQ toR):=by
 refine con_flatE (E:=envH Tryz.prog gl0 [e178 bndOk lesF inOk [e261 lm3]] [] noLp 0) (glOk st) (envH_ok (one_in (in178 hx (one_in (in261 hx)))) fun _ h=>nomatch h) Tryz.func249 (by kernel_rfl) (by kernel_rfl) (hx 249 rfl) (fun _ _ _ h=>nomatch h) fun args k hk=>?_
 unfold toC at hk
 split at hk<;>first | (cases hk; done) | skip
 rename_i r c p a b w h t u;obtain ⟨hb,hk⟩:=bif_none hk;obtain ⟨⟨r0,rh,c0,cw⟩,bd,a1,a2,b1,b2⟩:=holds_eq.1 hb;have bd':=bd;obtain ⟨w1,w2,h1,h2,t0,tu,uh⟩:=bd';refine ⟨[.agg [iv r,iv c,bv p],iv a,iv b,.agg [iv w,iv h,iv t,iv u,bv false]],_,.self (.self (.self (.self .nil))),agg_clo rfl,hk,(to_tree r c a b w h t u p false bndOk lesF inOk lm3 _).trans (hT bd (hT ⟨r0,c0,w1,w2,h1,h2⟩ ?_))⟩
 rw [cond_false,lm3_to a1 a2 h1 (by omega),lm3_to b1 b2 w1 w2]
 exact isD_of rfl
noncomputable def msC:ConF:=fun args k=>match args with
 | [.agg [.v (.bool b0),.v (.bool b1),.v (.bool b2),.v (.bool _),.v (.bool b4),.v (.bool b5),.v (.bool b6),.v (.bool b7),.v (.int .u8 x),.v (.int .u8 y),.v (.int .i64 z)],.v (.int .u8 63),.sl _ g 1 1,.v (.bool v)]=>match g 0 0 with
  | .v (.int .i64 6)=>k (fun _=>(.agg [bv b0,bv b1,bv b2,bv v,bv b4,bv b5,bv b6,bv b7,kv .u8 x,kv .u8 y,iv z],[]))
  | _=>none
 | _=>none
theorem in248 {st:AE.Stat}(hx:Hx st):InOk Tryz.prog st e248:=⟨Tryz.func248,by kernel_rfl,by kernel_rfl,hx 248 rfl,envH_ok (fun _ h=>nomatch h) (fun _ h=>nomatch h),glOk st,(fun _ _ _ h=>nomatch h),rfl⟩
theorem msC_ok {st:AE.Stat}(hx:Hx st):ConOk Tryz.prog st 183 msC:=by
 refine con_flatE (E:=envH Tryz.prog gl0 [e248] [] noLp 2) (glOk st) (envH_ok (one_in (in248 hx)) fun _ h=>nomatch h) Tryz.func183 (by kernel_rfl) (by kernel_rfl) (hx 183 rfl) (fun _ _ _ h=>nomatch h) fun args k hk=>?_
 unfold msC at hk
 split at hk<;>first | (cases hk; done) | skip
 rename_i b0 b1 b2 b3 b4 b5 b6 b7 x y z t g v
 split at hk<;>first | (cases hk; done) | skip
 rename_i h0
 refine ⟨[.agg [bv b0,bv b1,bv b2,bv b3,bv b4,bv b5,bv b6,bv b7,kv .u8 x,kv .u8 y,iv z],kv .u8 63,.sl t (fun _ _=>iv 6) 1 1,bv v],_,.self (.self (.cons (Cv.sl fun i f hi hf=>.of ?_) (.self .nil))),agg_clo rfl,hk,(mst_tree b0 b1 b2 b3 b4 b5 b6 b7 v x y z t _).trans (isD_of rfl)⟩
 obtain rfl:i=0:=by omega
 obtain rfl:f=0:=by omega
 exact h0
def allI (g:Nat->Nat->DV):Nat->Bool
 | 0=>true
 | m+1=>(match g m 0 with
  | .v (.int .i64 _)=>true
  | _=>false)&&allI g m
theorem allI_at {g:Nat->Nat->DV}:∀ {n:Nat},allI g n=true->∀ i,i<n->g i 0=iv (numD (g i 0))
 | 0,_,i,hi=>by omega
 | n+1,h,i,hi=>by
  rw [allI,Bool.and_eq_true] at h
  rcases Nat.lt_or_ge i n with q | q
  ·exact allI_at h.2 i q
  ·obtain rfl:i=n:=by omega
   have h1:=h.1
   split at h1<;>first | (cases h1; done) | skip
   rename_i x e;rw [e];rfl
noncomputable def atC:ConF:=fun args k=>match args with
 | [.sl _ g 1 n,.v (.int .i64 (.ofNat i)),.v (.int .i64 (.ofNat _))]=>bif allI g n&&Nat.ble (i+1) n&&decide (0<numD (g i 0)) then k (fun _=>(iv (numD (g i 0)),[])) else none
 | _=>none
theorem atC_ok {st:AE.Stat}(hx:Hx st):ConOk Tryz.prog st 192 atC:=by
 refine con_flatE (E:=envH Tryz.prog gl0 [] [] noLp 0) (glOk st) (envH_ok (fun _ h=>nomatch h) fun _ h=>nomatch h) Tryz.func192 (by kernel_rfl) (by kernel_rfl) (hx 192 rfl) (fun _ _ _ h=>nomatch h) fun args k hk=>?_
 unfold atC at hk
 split at hk<;>first | (cases hk; done) | skip
 rename_i t g n i d;obtain ⟨hb,hk⟩:=bif_none hk;rw [Bool.and_eq_true,Bool.and_eq_true] at hb;obtain ⟨⟨h1,h2⟩,h3⟩:=hb;have h2:=Nat.le_of_ble_eq_true h2;have h3:=of_decide_eq_true h3
 refine ⟨[.sl t (fun i _=>iv (numD (g i 0))) 1 n,iv i,iv d],_,.cons (Cv.sl fun j f hj hf=>.of ?_) (.self (.self .nil)),v_clo _,hk,(at_tree t (fun i=>numD (g i 0)) n i d _).trans ?_⟩
 ·obtain rfl:f=0:=by omega
  exact allI_at h1 j hj
 ·simp only [Int.toNat_natCast,Nat.add_zero]
  exact dF (by omega) (dT (by omega) (dT (by omega) (dF (by omega) (dT (by omega) (dT (by omega) (isD_of rfl))))))
noncomputable def alC:ConF:=fun args k=>match args with
 | []=>k (fun _=>(.sl false (fun i _=>iv (alW i)) 1 3,[]))
 | _=>none
theorem alC_ok {st:AE.Stat}(hx:Hx st):ConOkZ true Tryz.prog st 186 alC:=by
 refine con_frz (E:=envH Tryz.prog gl0 [] [] noLp 0 [] true) rfl (glOk st) (envH_ok (fun _ h=>nomatch h) fun _ h=>nomatch h) Tryz.func186 (by kernel_rfl) (by kernel_rfl) (hx 186 rfl) (fun _ _ _ h=>nomatch h) fun args k hk=>?_
 unfold alC at hk
 split at hk<;>first | (cases hk; done) | skip
 refine ⟨[],_,.nil,.sl fun _ _ _ _=>.v _,hk,(al_tree _).trans (fzq_of ⟨[0],SubZ.cv (Cv.sl fun i f hi hf=>.of ?_) (SubZ.fz0 (c:=.lst [[iv 47],[iv 1047],[iv 1049]]) rfl (Nat.le_refl _) fun _ _=>rfl),fun j hj blk hb i f hi hf=>?_⟩)⟩
 ·obtain rfl:f=0:=by omega
  match i,hi with
  | 0,_ | 1,_ | 2,_=>rfl
 ·obtain rfl:j=0:=by simpa using hj
  obtain rfl:(⟨1,.lst [[iv 47],[iv 1047],[iv 1049]]⟩:DBlk)=blk:=Option.some.inj (Option.some.inj hb);have hf:f<1:=hf;have hi:i<3:=hi
  obtain rfl:f=0:=by omega
  match i,hi with
  | 0,_ | 1,_ | 2,_=>exact .v _
noncomputable def ctC:ConF:=fun args k=>match args with
 | [.sl _ g 1 3,.v (.int .i64 6)]=>match g 0 0,g 1 0,g 2 0 with
  | .v (.int .i64 47),.v (.int .i64 1047),.v (.int .i64 1049)=>k (fun _=>(bv false,[]))
  | _,_,_=>none
 | _=>none
theorem in250 {st:AE.Stat}(hx:Hx st):InOk Tryz.prog st e250:=⟨Tryz.func250,by kernel_rfl,by kernel_rfl,hx 250 rfl,envH_ok (fun _ h=>nomatch h) (fun _ h=>nomatch h),glOk st,(fun _ _ _ h=>nomatch h),rfl⟩
theorem ctC_ok {st:AE.Stat}(hx:Hx st):ConOk Tryz.prog st 185 ctC:=by
 refine con_flatE (E:=envH Tryz.prog gl0 [e250] [] noLp 0) (glOk st) (envH_ok (one_in (in250 hx)) fun _ h=>nomatch h) Tryz.func185 (by kernel_rfl) (by kernel_rfl) (hx 185 rfl) (fun _ _ _ h=>nomatch h) fun args k hk=>?_
 unfold ctC at hk
 split at hk<;>first | (cases hk; done) | skip
 rename_i t g
 split at hk<;>first | (cases hk; done) | skip
 rename_i h0 h1 h2
 refine ⟨[.sl t (fun i _=>iv (alW i)) 1 3,iv 6],_,.cons (Cv.sl fun i f hi hf=>.of ?_) (.self .nil),v_clo _,hk,(ctn_tree t _).trans (isD_of rfl)⟩
 obtain rfl:f=0:=by omega
 match i,hi with
 | 0,_=>exact h0
 | 1,_=>exact h1
 | 2,_=>exact h2
def dgS (n:Nat):ByteArray:=⟨⟨[UInt8.ofNat (48+n)]⟩⟩
def itD (n:Nat):Deep:=⟨253,[.int .i64 n],[],.string (dgS n),[]⟩
theorem it_run1:(itD 1).run Tryz.prog stN csN 60 20=true:=by kernel_rfl
theorem it_run2:(itD 2).run Tryz.prog stN csN 60 20=true:=by kernel_rfl
theorem it_run3:(itD 3).run Tryz.prog stN csN 60 20=true:=by kernel_rfl
def itX (args:List Value):RL:=match args with
 | [.int .i64 n]=>if n=1 then some (.string (dgS 1),[]) else if n=2 then some (.string (dgS 2),[]) else if n=3 then some (.string (dgS 3),[]) else none
 | _=>none
theorem it_ans1 {H:HF}{N:Nat}:(itD 1).ans [.int .i64 1] H N=some (.string (dgS 1),[]):=by kernel_rfl
theorem it_ans2 {H:HF}{N:Nat}:(itD 2).ans [.int .i64 2] H N=some (.string (dgS 2),[]):=by kernel_rfl
theorem it_ans3 {H:HF}{N:Nat}:(itD 3).ans [.int .i64 3] H N=some (.string (dgS 3),[]):=by kernel_rfl
theorem fnOk_it {W:World}(hm:Tryz.prog.follows .mixedOrders=true):FnOk Tryz.prog W 253 (fun a σ=>RL.app σ (itX a)):=by
 intro args σ v σ' hg
 dsimp only at hg
 have hst:GoodSt W stN:=fun b i v h=>nomatch h
 have hok:CallOk Tryz.prog W stN.ext:=fun f a s v s' h=>nomatch h
 have hf:(Tryz.prog.funcs[253]?).isSome=true:=by rw [Tryz.func253]; rfl
 unfold itX at hg
 split at hg<;>first | (cases hg; done) | skip
 rename_i n;split at hg
 ·rename_i e;subst e
  exact Deep.ok (D:=itD 1) it_run1 rfl hst hok hm hf _ σ v σ' (by rw [<- hg]; exact congrArg _ it_ans1)
 split at hg
 ·rename_i e;subst e
  exact Deep.ok (D:=itD 2) it_run2 rfl hst hok hm hf _ σ v σ' (by rw [<- hg]; exact congrArg _ it_ans2)
 split at hg
 ·rename_i e;subst e
  exact Deep.ok (D:=itD 3) it_run3 rfl hst hok hm hf _ σ v σ' (by rw [<- hg]; exact congrArg _ it_ans3)
 ·cases hg
noncomputable def itC (Q:Int->Prop) (S:Nat->ByteArray):ConF:=fun args k=>match args with
 | [.v (.int .i64 n)]=>bif holds (Q n) then k (fun _=>(sv (S n.toNat),[])) else none
 | _=>none
def itQ (n:Int):Prop:=1<=n/\n<=3
theorem itC_ok {st:AE.Stat}(h:∀ a σ,st.ext 253 a σ=RL.app σ (itX a)):ConOk Tryz.prog st 253 (itC itQ dgS):=by
 refine con_ext Tryz.func253 (by kernel_rfl) (by kernel_rfl) fun args k hk=>?_
 unfold itC at hk
 split at hk<;>first | (cases hk; done) | skip
 rename_i n;obtain ⟨hb,hk1⟩:=bif_none hk;obtain ⟨h1,h2⟩:=holds_eq.1 hb
 refine ⟨.string (dgS n.toNat),rfl,hk1,fun C σ vs _ ha=>?_⟩
 obtain ⟨x,r,rfl,hx,hr⟩:=ha.cons_inv;obtain rfl:=hr.nil_inv;cases hx;rw [h]
 obtain rfl | rfl | rfl:n=1\/n=2\/n=3:=by omega
 ·rfl
 ·rfl
 ·rfl
end Go.Proofs.YtigmkgampfbflaaGreatDoor
namespace Go.Proofs.YtigmkgampfbflaaGreatDoor
open Go Go.AE Go.DE Go.RowKit
def Tm.low (x:Tm):Prop:=(∀ i,i<x.gn->x.gT i=false)/\(∀ i,i<x.on->x.oT i=false)/\∀ i,i<x.bn->x.bT i=false
theorem go_of {T:Nat->Bool}{R:Nat->Row}{n:Nat}(h:rowsPos R n) (hT:∀ i,i<n->T i=false):rowsGo (rowsD T R) n:=⟨are_of h,hT⟩
theorem Tm.own_clo (x:Tm):Clo (.agg x.own.cells):=.agg x.own.clo
theorem Tm.low_cells {x:Tm}(h1:∀ i,i<x.gn->x.gT i=false) (h2:∀ i,i<x.on->x.oT i=false) (h3:∀ i,i<x.bn->x.bT i=false):∀ d∈x.cells,Low d:=by
 have rl:∀ {T:Nat->Bool}{R:Nat->Row}{n:Nat},(∀ i,i<n->T i=false)->Low (.sl false (rowsD T R) 1 n):=fun {T R n} hT=>.sl fun i f hi _=>by
  show Low (.sl (T i) _ _ _);rw [hT i hi]
  exact .sl fun j g _ _=>row_low _ _ _
 intro d hd;simp only [Tm.cells,List.mem_cons,List.not_mem_nil,or_false] at hd
 repeat (first | (rcases hd with rfl | hd; first | exact Low.v _ | exact rl h1 | exact rl h2 | exact rl h3 | exact tabs_low _ _) | (subst hd; exact Low.v _))
def Tm.noR (x:Tm):Tm:={ x.own with S:=fun j=>if j=41 then ⟨#[]⟩ else x.S j }
theorem rpl_tree (Q:List DV->Prop) (x:Tm) (k:DV->Option Unit):bodyD Tryz.prog (envZ [(35,owC Q fun x=>(Tm.own x).cells)] noLp 0) Tryz.f22 [.agg x.cells] [] (fun d _=>k d) =
  bif holds (Q x.cells) then k (.tup [.agg [iv (Tm.I (Tm.own (tmOf x.cells)) 0),iv (Tm.I (Tm.own (tmOf x.cells)) 1),.sl false (rowsD (Tm.gT (Tm.own (tmOf x.cells))) (Tm.gR (Tm.own (tmOf x.cells)))) 1 (Tm.gn (Tm.own (tmOf x.cells))),iv (Tm.I (Tm.own (tmOf x.cells)) 3),iv (Tm.I (Tm.own (tmOf x.cells)) 4),.sl false (rowsD (Tm.oT (Tm.own (tmOf x.cells))) (Tm.oR (Tm.own (tmOf x.cells)))) 1 (Tm.on (Tm.own (tmOf x.cells))),iv (Tm.I (Tm.own (tmOf x.cells)) 6),iv (Tm.I (Tm.own (tmOf x.cells)) 7),bv (Tm.B (Tm.own (tmOf x.cells)) 8),iv (Tm.I (Tm.own (tmOf x.cells)) 9),iv (Tm.I (Tm.own (tmOf x.cells)) 10),bv (Tm.B (Tm.own (tmOf x.cells)) 11),iv (Tm.I (Tm.own (tmOf x.cells)) 12),iv (Tm.I (Tm.own (tmOf x.cells)) 13),iv (Tm.I (Tm.own (tmOf x.cells)) 14),bv (Tm.B (Tm.own (tmOf x.cells)) 15),kv .u8 ((Tm.I (Tm.own (tmOf x.cells)) 16)),kv .u8 ((Tm.I (Tm.own (tmOf x.cells)) 17)),iv (Tm.I (Tm.own (tmOf x.cells)) 18),iv (Tm.I (Tm.own (tmOf x.cells)) 19),iv (Tm.I (Tm.own (tmOf x.cells)) 20),iv (Tm.I (Tm.own (tmOf x.cells)) 21),bv (Tm.B (Tm.own (tmOf x.cells)) 22),bv (Tm.B (Tm.own (tmOf x.cells)) 23),bv (Tm.B (Tm.own (tmOf x.cells)) 24),bv (Tm.B (Tm.own (tmOf x.cells)) 25),bv (Tm.B (Tm.own (tmOf x.cells)) 26),bv (Tm.B (Tm.own (tmOf x.cells)) 27),bv (Tm.B (Tm.own (tmOf x.cells)) 28),bv (Tm.B (Tm.own (tmOf x.cells)) 29),kv .u8 ((Tm.I (Tm.own (tmOf x.cells)) 30)),kv .u8 ((Tm.I (Tm.own (tmOf x.cells)) 31)),iv (Tm.I (Tm.own (tmOf x.cells)) 32),iv (Tm.I (Tm.own (tmOf x.cells)) 33),iv (Tm.I (Tm.own (tmOf x.cells)) 34),.sl false (tabsD (Tm.tb (Tm.own (tmOf x.cells)))) 1 (Tm.tn (Tm.own (tmOf x.cells))),.sl false (rowsD (Tm.bT (Tm.own (tmOf x.cells))) (Tm.bR (Tm.own (tmOf x.cells)))) 1 (Tm.bn (Tm.own (tmOf x.cells))),iv (Tm.I (Tm.own (tmOf x.cells)) 37),sv (Tm.S (Tm.own (tmOf x.cells)) 38),sv (Tm.S (Tm.own (tmOf x.cells)) 39),sv (Tm.S (Tm.own (tmOf x.cells)) 40),sv ⟨#[]⟩],sv (x.S 41)])
  else none:=by
 kernel_rfl
noncomputable def rplC (Q:List DV->Prop) (O:Tm->Tm):ConF:=fun args k=>match args with
 | [.agg l]=>bif holds (Q l) then k (fun _=>(.tup [.agg (O (tmOf l)).cells,sv ((tmOf l).S 41)],[])) else none
 | _=>none
end Go.Proofs.YtigmkgampfbflaaGreatDoor
namespace Go.Proofs.YtigmkgampfbflaaGreatDoor
open Go Go.AE Go.DE Go.RowKit
theorem wi_tree (r c:Int) (p:Bool) (w h:Int) (t:Bool) (G:Nat->Nat->DV) (n:Nat) (k:DV->Option Unit):bodyD Tryz.prog (env [] noLp 0) Tryz.f27 [.agg [iv r,iv c,bv p],.agg [iv w,iv h,.sl t G 1 n]] [] (fun d _=>k d) =
  bif decide (r >= 0) then bif decide (r<h) then bif decide (c >= 0) then bif decide (c<w) then bif !p then k (bv true) else k (bv (c==IntKind.wrap .i64 (w-1))) else k (bv false) else k (bv false)
  else k (bv false) else k (bv false):=by
 kernel_rfl
theorem wiC_ok {st:AE.Stat}(hx:Hx st):ConOk Tryz.prog st 27 (isC insF):=by
 refine con_flat (mg:=[]) (l:=[]) (lp:=noLp) (n:=0) (glOk st) (fun _ h=>nomatch h) Tryz.func27 (by kernel_rfl) (by kernel_rfl) (hx 27 rfl) (fun _ _ _ h=>nomatch h) fun args k hk=>?_
 unfold isC at hk
 split at hk<;>first | (cases hk; done) | skip
 refine ⟨_,_,.self (.self .nil),v_clo _,hk,(wi_tree _ _ _ _ _ _ _ _ _).trans ?_⟩;unfold insF
 repeat' (first | exact isD_of (by simp [*]) | refine dS (fun h=>?_) (fun h=>?_) | refine cS (fun h=>?_) (fun h=>?_))
noncomputable abbrev s64:ConF:=inl2 Tryz.prog (env [] noLp 0) Tryz.f69
noncomputable abbrev s98:ConF:=inl2 Tryz.prog (env [(69,s64)] noLp 4) Tryz.f108
noncomputable abbrev s63:ConF:=inl2 Tryz.prog (env [(108,s98)] noLp 0) Tryz.f68
theorem st_tree (a b c:Int) (k:DV->Option Unit):bodyD Tryz.prog (env [(68,s63)] noLp 0) Tryz.f29 [.agg [kv .u8 a,kv .u8 b],iv c] [] (fun d _=>k d) =
  bif a != 66 then bif a != 48 then k (bv false) else bif b != 66 then bif b != 48 then k (bv false) else bif c==0 then k (bv true) else k (bv (c==1)) else bif c==0 then k (bv true) else k (bv (c==1))
  else bif b != 66 then bif b != 48 then k (bv false) else bif c==0 then k (bv true) else k (bv (c==1)) else bif c==0 then k (bv true) else k (bv (c==1)):=by
 kernel_rfl
theorem s64_ok {st:AE.Stat}(hx:Hx st):ConOk Tryz.prog st 69 s64:=inl2_ok Tryz.func69 (by kernel_rfl) (by kernel_rfl) (hx 69 rfl) (glOk st) (tblD_env (l:=[]) fun _ h=>nomatch h) (fun _ _ _ h=>nomatch h)
theorem s98_ok {st:AE.Stat}(hx:Hx st):ConOk Tryz.prog st 108 s98:=inl2_ok Tryz.func108 (by kernel_rfl) (by kernel_rfl) (hx 108 rfl) (glOk st) (tblD_env (l:=[(69,s64)]) fun x h=>by
 simp only [List.mem_cons,List.not_mem_nil,or_false] at h;subst h
 exact s64_ok hx) (fun _ _ _ h=>nomatch h)
theorem s63_ok {st:AE.Stat}(hx:Hx st):ConOk Tryz.prog st 68 s63:=inl2_ok Tryz.func68 (by kernel_rfl) (by kernel_rfl) (hx 68 rfl) (glOk st) (tblD_env (l:=[(108,s98)]) fun x h=>by
 simp only [List.mem_cons,List.not_mem_nil,or_false] at h;subst h
 exact s98_ok hx) (fun _ _ _ h=>nomatch h)
theorem stC_ok {st:AE.Stat}(hx:Hx st):ConOk Tryz.prog st 29 (seC setF):=by
 refine con_flat (mg:=[]) (l:=[(68,s63)]) (lp:=noLp) (n:=0) (glOk st) (fun x h=>?_) Tryz.func29 (by kernel_rfl) (by kernel_rfl) (hx 29 rfl) (fun _ _ _ h=>nomatch h) fun args k hk=>?_
 ·simp only [List.mem_cons,List.not_mem_nil,or_false] at h;subst h;exact s63_ok hx
 unfold seC at hk
 split at hk<;>first | (cases hk; done) | skip
 refine ⟨_,_,.self (.self .nil),v_clo _,hk,(st_tree _ _ _ _).trans ?_⟩;unfold setF
 repeat' (first | exact isD_of (by simp_all [bne]) | refine cS (fun h=>?_) (fun h=>?_))
def chkFn:DV:=.fn (.func 32) [] []
theorem c1_tree (F:Row->Int) (t:Bool) (r:Row) (k:DV->Option Unit):bodyD Tryz.prog (env [(33,rcC F)] noLp 0) Tryz.f32 [.sl t r.cell 5 r.n] [] (fun d _=>k d) =
  bif holds (Nat.le r.n 9000000/\∀ (i:Nat),i<r.n->sv (r.tx i)=sv (strD (sv (r.tx i)))/\Nat.le (ByteArray.size (strD (sv (r.tx i)))) 9000000/\iv (r.wd i)=iv (numD (iv (r.wd i)))/\iv (r.fo i)=iv (numD (iv (r.fo i)))/\iv (r.ba i)=iv (numD (iv (r.ba i)))/\iv (r.fl i)=iv (numD (iv (r.fl i))))
  then k (bv (F { n:=r.n,tx:=fun i=>strD (sv (r.tx i)),wd:=fun i=>numD (iv (r.wd i)),fo:=fun i=>numD (iv (r.fo i)),ba:=fun i=>numD (iv (r.ba i)),fl:=fun i=>numD (iv (r.fl i)) } != 0))
  else none:=by
 kernel_rfl
noncomputable def c1C (F:Row->Int):ConF:=fun args k=>match args with
 | [.sl _ g 5 n]=>bif holds (cellsOk g n) then k (fun _=>(bv (F (rowOf g n) != 0),[])) else none
 | _=>none
theorem c1C_ok {st:AE.Stat}(hx:Hx st) (hv:VdOk st):ConOk Tryz.prog st 32 (c1C rowF):=by
 refine con_flat (mg:=[]) (l:=[(33,rcC rowF)]) (lp:=noLp) (n:=0) (glOk st) (fun x h=>?_) Tryz.func32 (by kernel_rfl) (by kernel_rfl) (hx 32 rfl) (fun _ _ _ h=>nomatch h) fun args k hk=>?_
 ·simp only [List.mem_cons,List.not_mem_nil,or_false] at h;subst h;exact rrC_ok hx hv
 unfold c1C at hk
 split at hk<;>first | (cases hk; done) | skip
 rename_i t g n;obtain ⟨hb,hk⟩:=bif_none hk;have hb:=holds_eq.1 hb;exact ⟨[.sl t (rowOf g n).cell 5 n],_,.cons (hb.cv t) .nil,v_clo _,hk,(c1_tree rowF t (rowOf g n) _).trans (hT (Row.ok hb.row) (isD_of rfl))⟩
theorem chkFn_clo:Clo chkFn:=fun C μ μ' x hx=>by
 cases hx with
 | fn _ _ _ u v h1 h2 h3 h4=>exact .fn _ _ _ u v h1 h2 (fun i d x' hd=>by simp at hd) fun i d x' hd=>by simp at hd
theorem if_loop (F:Row->Int) (t:Bool) (T:Nat->Bool) (R:Nat->Row) (n i:Nat) (K:Ex->Nat->List DV->List DV->DHeap->Option Unit):execD Tryz.prog (env [(32,c1C F)] noLp 0) (loopAt Tryz.f71 26) 500 (temps 19 [0,1,7,8] [.sl t (rowsD T R) 1 n,chkFn,iv n,iv i]) [] (fun e τ σ=>K e τ.length (pick [0,1,7,8] τ) (pick [] τ) σ) =
  bif decide ((i:Int)<(n:Int)) then bif decide ((i:Int)<(n:Int)) then bif decide (tN i<n) then bif holds (Nat.le (Row.n (R (tN i))) 9000000/\∀ (i_1:Nat),i_1<Row.n (R (tN i))->sv (Row.tx (R (tN i)) i_1)=sv (strD (sv (Row.tx (R (tN i)) i_1)))/\Nat.le (ByteArray.size (strD (sv (Row.tx (R (tN i)) i_1)))) 9000000/\iv (Row.wd (R (tN i)) i_1)=iv (numD (iv (Row.wd (R (tN i)) i_1)))/\iv (Row.fo (R (tN i)) i_1)=iv (numD (iv (Row.fo (R (tN i)) i_1)))/\iv (Row.ba (R (tN i)) i_1)=iv (numD (iv (Row.ba (R (tN i)) i_1)))/\iv (Row.fl (R (tN i)) i_1)=iv (numD (iv (Row.fl (R (tN i)) i_1))))
  then bif F (rowOf (Row.cell (R (tN i))) (Row.n (R (tN i)))) != 0 then K .ret 19 [.sl t (rowsD T R) 1 n,.fn (Fn.func 32) [] [],iv (n:Int),iv (i:Int)] [] [] else K .normal 19 [.sl t (rowsD T R) 1 n,.fn (Fn.func 32) [] [],iv (n:Int),iv (IntKind.wrap .i64 ((i:Int)+1))] [] []
  else none else none else none else K (.exit 0) 19 [.sl t (rowsD T R) 1 n,.fn (Fn.func 32) [] [],iv (n:Int),iv (i:Int)] [] []:=by
 kernel_rfl
structure ZIf where
 t:Bool
 T:Nat->Bool
 R:Nat->Row
 n:Nat
 i:Nat
noncomputable def ifI:LInv ZIf where
 pre x:=x.i<=x.n/\rowsOk x.R x.n/\∀ j,j<x.n->rowF (x.R j)=0
 m:=0
 n:=19
 ps:=[0,1,7,8]
 sd x:=[.sl x.t (rowsD x.T x.R) 1 x.n,chkFn,iv x.n,iv x.i]
 sh _:=[]
 meas x:=x.n-x.i
 e _:=.exit 0
 qs:=[]
 od _:=[]
 oh _:=[]
 guess ds _:=match ds with
  | [.sl t g 1 n,_,_,_]=>some ⟨t,fun i=>slT (g i 0),fun i=>rowD (g i 0),n,0⟩
  | _=>none
 cps _ k:=k (.exit 0) [] []
theorem if_ls {st:AE.Stat}(hx:Hx st) (hv:VdOk st):LoopS Tryz.prog st gl0 (.loop (loopAt Tryz.f71 26)) ifI.g:=by
 refine ifI.ok (E:=env [(32,c1C rowF)] noLp 0) (p:=500) (tblD_env (l:=[(32,c1C rowF)]) fun x h=>?_) (glOk st).1 (fun _ _ _ h=>nomatch h) (fun x k h=>h) fun x hx2=>?_
 ·simp only [List.mem_cons,List.not_mem_nil,or_false] at h;subst h;exact c1C_ok hx hv
 obtain ⟨t,T,R,n,i⟩:=x;obtain ⟨hi,hR,hz⟩:i<=n/\rowsOk R n/\∀ j,j<n->rowF (R j)=0:=hx2;have hn:=hR.1;refine (if_loop rowF t T R n i _).trans ?_;simp only [Int.toNat_natCast,Nat.add_zero]
 refine dS (fun hlt=>?_) fun hge=>?_
 ·have hlt:i<n:=by omega
  have hW:IntKind.i64.wrap ((i:Int)+1)=((i+1:Nat):Int):=by rw [W_in (by omega) (by omega)]; omega
  rw [hW]
  have e2:(rowF (R i) != 0)=false:=by rw [hz i hlt]; rfl
  refine dT (by omega) (dT hlt (hT (Row.ok (hR.2 i hlt)) (cF e2 ?_)))
  exact LInv.ask_of ⟨rfl,⟨t,T,R,n,i+1⟩,⟨rfl,rfl,rfl,hlt,hR,hz⟩,by simp only [ifI]; omega,[],wk0 (.cons (.sl _ _ _ _) (.cons (.of_clo chkFn_clo) (.cons (.v _) (.cons (.v _) .nil)))) rfl⟩
 ·exact LInv.ask_of ⟨rfl,rfl,[],wk0 .nil rfl⟩
theorem if_tree (t:Bool) (T:Nat->Bool) (R:Nat->Row) (n:Nat) (k:DV->Option Unit):bodyD Tryz.prog (env [] (lpOf [(26,ifI.g)]) 0) Tryz.f71 [.sl t (rowsD T R) 1 n,chkFn] [] (fun d _=>k d) =
  bif holds ((Nat.le 0 n/\(Nat.le n 9000000/\∀ (i:Nat),i<n->Nat.le (Row.n (R i)) 9000000/\∀ (i_1:Nat),i_1<Row.n (R i)->Nat.le (ByteArray.size (Row.tx (R i) i_1)) 9000000)/\∀ (j:Nat),j<n->rowF (R j)=0)/\∃ ids,WkP 0 ids [.sl t (rowsD T R) 1 n,.fn (Fn.func 32) [] [],iv (n:Int),iv 0] [] [.sl t (fun a _=>DV.sl (slT (.sl (T a) (Row.cell (R a)) 5 (Row.n (R a)))) (Row.cell (R a)) 5 (Row.n (R a))) 1 n,.fn (Fn.func 32) [] [],iv (n:Int),iv 0] (LInv.sh ifI { t:=t,T:=fun i=>slT (.sl (T i) (Row.cell (R i)) 5 (Row.n (R i))),R:=R,n:=n,i:=0 }))
  then k (iv (-1:Int)) else none:=by
 kernel_rfl
def backQ (G:Nat->Nat->DV) (n:Nat):Prop:=rowsSo G n/\∀ i,i<n->rowF (rowD (G i 0))=0
noncomputable def ifC (Q:(Nat->Nat->DV)->Nat->Prop) (d:DV):ConF:=fun args k=>match args with
 | [.sl _ G 1 n,.fn (.func 32) [] []]=>bif holds (Q G n) then k (fun _=>(d,[])) else none
 | _=>none
theorem ifC_ok {st:AE.Stat}(hx:Hx st) (hv:VdOk st):ConOk Tryz.prog st 71 (ifC backQ (iv (-1))):=by
 refine con_flat (mg:=[]) (l:=[]) (lp:=lpOf [(26,ifI.g)]) (n:=0) (glOk st) (fun _ h=>nomatch h) Tryz.func71 (by kernel_rfl) (by kernel_rfl) (hx 71 rfl) (lp_one (by kernel_rfl) (if_ls hx hv)) fun args k hk=>?_
 unfold ifC at hk
 split at hk<;>first | (cases hk; done) | skip
 rename_i t G n;obtain ⟨hb,hk⟩:=bif_none hk;obtain ⟨hb,hz⟩:=holds_eq.1 hb
 exact ⟨[.sl t (rowsD (fun i=>slT (G i 0)) fun i=>rowD (G i 0)) 1 n,chkFn],_,.cons (rows_cv hb.2) (.self .nil),v_clo _,hk,(if_tree t _ _ n _).trans (hT ⟨⟨Nat.zero_le _,⟨hb.1,fun i hi=>(hb.2 i hi).2.row⟩,hz⟩,[],wk0 (.cons (.sl _ _ _ _) (.cons (.of_clo chkFn_clo) (.cons (.v _) (.cons (.v _) .nil)))) rfl⟩ (isD_of rfl))⟩
theorem cf_tree (Q:(Nat->Nat->DV)->Nat->Prop) (t:Bool) (G:Nat->Nat->DV) (n:Nat) (k:DV->Option Unit):bodyD Tryz.prog (env [(71,ifC Q (iv (-1)))] noLp 0) Tryz.f31 [.sl t G 1 n,chkFn] [] (fun d _=>k d) =
  bif holds (Q G n) then k (bv (decide ((-1:Int) >= 0))) else none:=by
 kernel_rfl
theorem cfC_ok {st:AE.Stat}(hx:Hx st) (hv:VdOk st):ConOk Tryz.prog st 31 (ifC backQ (bv false)):=by
 refine con_flat (mg:=[]) (l:=[(71,ifC backQ (iv (-1)))]) (lp:=noLp) (n:=0) (glOk st) (fun x h=>?_) Tryz.func31 (by kernel_rfl) (by kernel_rfl) (hx 31 rfl) (fun _ _ _ h=>nomatch h) fun args k hk=>?_
 ·simp only [List.mem_cons,List.not_mem_nil,or_false] at h;subst h;exact ifC_ok hx hv
 unfold ifC at hk
 split at hk<;>first | (cases hk; done) | skip
 rename_i t G n;obtain ⟨hb,hk⟩:=bif_none hk;exact ⟨[.sl t G 1 n,chkFn],_,.self (.self .nil),v_clo _,hk,(cf_tree backQ t G n _).trans (hT (holds_eq.1 hb) (isD_of rfl))⟩
end Go.Proofs.YtigmkgampfbflaaGreatDoor
namespace Go.Proofs.YtigmkgampfbflaaGreatDoor
open Go Go.AE Go.DE Go.RowKit
theorem ak_tree (a b c:Int) (k:DV->Option Unit):bodyD Tryz.prog (env [] noLp 30) Tryz.f28 [.agg [iv a,iv b,iv c]] [] (fun d _=>k d) =
  bif decide (a<(-1:Int)) then k (iv 2) else bif decide (a > 255) then k (iv 2) else bif decide (b<(-1:Int)) then k (iv 2) else bif decide (b > 255) then k (iv 2) else bif decide (c<0) then k (iv 2)
  else bif decide (c > 255) then k (iv 2) else k (iv 0):=by
 kernel_rfl
def akF (a b c:Int):Int :=
 bif decide (a < -1) then 2 else bif decide (a > 255) then 2 else bif decide (b < -1) then 2 else bif decide (b > 255) then 2 else bif decide (c<0) then 2 else bif decide (c > 255) then 2 else 0
noncomputable def akC (F:Int->Int->Int->Int):ConF:=fun args k=>match args with
 | [.agg [.v (.int .i64 a),.v (.int .i64 b),.v (.int .i64 c)]]=>k (fun _=>(iv (F a b c),[]))
 | _=>none
theorem akC_ok {st:AE.Stat}(hx:Hx st):ConOk Tryz.prog st 28 (akC akF):=by
 refine con_flat (mg:=[]) (l:=[]) (lp:=noLp) (n:=30) (glOk st) (fun _ h=>nomatch h) Tryz.func28 (by kernel_rfl) (by kernel_rfl) (hx 28 rfl) (fun _ _ _ h=>nomatch h) fun args k hk=>?_
 unfold akC at hk
 split at hk<;>first | (cases hk; done) | skip
 rename_i a b c;refine ⟨[.agg [iv a,iv b,iv c]],_,.self .nil,v_clo _,hk,(ak_tree a b c _).trans ?_⟩;unfold akF
 refine cS (fun h=>isD_of (by rw [h]; rfl)) fun h=>cS (fun h2=>isD_of (by rw [h,h2]; rfl)) fun h2=>cS (fun h3=>isD_of (by rw [h,h2,h3]; rfl)) fun h3=>cS (fun h4=>isD_of (by rw [h,h2,h3,h4]; rfl)) fun h4=>cS (fun h5=>isD_of (by rw [h,h2,h3,h4,h5]; rfl)) fun h5=>cS (fun h6=>isD_of (by rw [h,h2,h3,h4,h5,h6]; rfl)) fun h6=>isD_of (by rw [h,h2,h3,h4,h5,h6]; rfl)
noncomputable abbrev tcL (Q:Int->Int->(Nat->Nat->DV)->Nat->Prop) (I:Int->Int->Bool->Int->Int->Bool) (A:Int->Int->Int->Int) (S:Int->Int->Int->Bool) (V:ByteArray->Bool) (Q2:(Nat->Nat->DV)->Nat->Prop):List (FuncId×ConF):=[(26,gkC Q),(27,isC I),(28,akC A),(29,seC S),(30,vaG V),(31,ifC Q2 (bv false))]
theorem tck_tree (Q:Int->Int->(Nat->Nat->DV)->Nat->Prop) (I:Int->Int->Bool->Int->Int->Bool) (A:Int->Int->Int->Int) (S:Int->Int->Int->Bool) (V:ByteArray->Bool) (Q2:(Nat->Nat->DV)->Nat->Prop) (x:Tm) (k:DV->Option Unit):bodyD Tryz.prog (env (tcL Q I A S V Q2) noLp 0) Tryz.f11 [.agg x.cells] [] (fun d _=>k d) =
  bif holds (Q (x.I 0) (x.I 1) (rowsD x.gT x.gR) x.gn) then bif holds (Q (x.I 3) (x.I 4) (rowsD x.oT x.oR) x.on) then bif x.I 0==x.I 3 then bif x.I 1==x.I 4 then bif I (x.I 6) (x.I 7) (x.B 8) (x.I 0) (x.I 1)
  then bif I (x.I 9) (x.I 10) (x.B 11) (x.I 0) (x.I 1) then bif A (x.I 19) (x.I 20) (x.I 21)==0 then bif A (x.I 12) (x.I 13) (x.I 14)==0 then bif S (x.I 30) (x.I 31) (x.I 32) then bif S (x.I 16) (x.I 17) (x.I 18)
  then bif decide (x.I 33 >= 0) then bif decide (x.I 33<x.I 34) then bif decide (x.I 34<=x.I 1) then bif (x.tn:Int)==x.I 0 then bif decide ((x.bn:Int)<=500) then bif decide (ByteArray.size (x.S 40)<=9000000)
  then bif !V (x.S 40) then k (iv 1) else bif holds (Q2 (rowsD x.bT x.bR) x.bn) then k (iv 0) else none else none else k (iv 1) else k (iv 1) else k (iv 1) else k (iv 1) else k (iv 1) else k (iv 1) else k (iv 1)
  else k (iv 1) else k (iv 1) else k (iv 1) else k (iv 1) else k (iv 1) else k (iv 1) else none else none:=by
 kernel_rfl
noncomputable def tcC (Q:List DV->Prop):ConF:=fun args k=>match args with
 | [.agg l]=>bif holds (Q l) then k (fun _=>(iv 0,[])) else none
 | _=>none
def gridP (w h:Int) (R:Nat->Row) (n:Nat):Prop:=1<=w/\w<=132/\1<=h/\h<=60/\(n:Int)=h/\∀ j,j<n->((R j).n:Int)=w/\rowF (R j)=0
structure PrpP (x:Tm):Prop where
 g:gridP (x.I 0) (x.I 1) x.gR x.gn
 o:gridP (x.I 3) (x.I 4) x.oR x.on
 w:x.I 0=x.I 3
 h:x.I 1=x.I 4
 c:insF (x.I 6) (x.I 7) (x.B 8) (x.I 0) (x.I 1)=true
 d:insF (x.I 9) (x.I 10) (x.B 11) (x.I 0) (x.I 1)=true
 a:akF (x.I 19) (x.I 20) (x.I 21)=0
 a2:akF (x.I 12) (x.I 13) (x.I 14)=0
 s:setF (x.I 30) (x.I 31) (x.I 32)=true
 s2:setF (x.I 16) (x.I 17) (x.I 18)=true
 t0:0<=x.I 33
 t1:x.I 33<x.I 34
 t2:x.I 34<=x.I 1
 tn:(x.tn:Int)=x.I 0
 bn:(x.bn:Int)<=500
 v:vdF (x.S 40)=true
 b:∀ j,j<x.bn->rowF (x.bR j)=0
def tckQ (l:List DV):Prop:=l=(tmOf l).cells/\(tmOf l).ok/\PrpP (tmOf l)
theorem tck_true (x:Tm) (hok:x.ok) (p:PrpP x):bodyD Tryz.prog (env (tcL gridQ insF akF setF vdF backQ) noLp 0) Tryz.f11 [.agg x.cells] [] (fun d _=>isD (iv 0) d)=some ():=by
 refine (tck_tree gridQ insF akF setF vdF backQ x _).trans ?_
 have qg:∀ {w h:Int}{T:Nat->Bool}{R:Nat->Row}{n:Nat},rowsOk R n->gridP w h R n->gridQ w h (rowsD T R) n:=fun ok p=>⟨p.1,p.2.1,p.2.2.1,p.2.2.2.1,p.2.2.2.2.1,ok.1,fun i hi=>⟨isRow_of (ok.2 i hi),(p.2.2.2.2.2 i hi).1,(p.2.2.2.2.2 i hi).2⟩⟩
 refine hT (qg hok.1 p.g) (hT (qg hok.2.1 p.o) (cT (by rw [p.w]; exact beq_self_eq_true _) (cT (by rw [p.h]; exact beq_self_eq_true _) (cT p.c (cT p.d (cT (by rw [p.a]; rfl) (cT (by rw [p.a2]; rfl) (cT p.s (cT p.s2 (cT (decide_eq_true p.t0) (cT (decide_eq_true p.t1) (cT (decide_eq_true p.t2) (cT (by rw [p.tn]; exact beq_self_eq_true _) (cT (decide_eq_true p.bn) (cT (decide_eq_true hok.2.2.2.2.1) (cF (by rw [p.v]; rfl) (hT ⟨⟨hok.2.2.1.1,fun i hi=>isRow_of (hok.2.2.1.2 i hi)⟩,p.b⟩ (isD_of rfl))))))))))))))))))
theorem tcC_ok {st:AE.Stat}(hx:Hx st) (hv:VdOk st):ConOk Tryz.prog st 11 (tcC tckQ):=by
 refine con_flat (mg:=[]) (l:=tcL gridQ insF akF setF vdF backQ) (lp:=noLp) (n:=0) (glOk st) (fun x h=>?_) Tryz.func11 (by kernel_rfl) (by kernel_rfl) (hx 11 rfl) (fun _ _ _ h=>nomatch h) fun args k hk=>?_
 ·simp only [tcL,List.mem_cons,List.not_mem_nil,or_false] at h
  rcases h with rfl | rfl | rfl | rfl | rfl | rfl
  ·exact gkC_ok hx hv
  ·exact wiC_ok hx
  ·exact akC_ok hx
  ·exact stC_ok hx
  ·exact vdC_ok hx hv
  ·exact cfC_ok hx hv
 unfold tcC at hk
 split at hk<;>first | (cases hk; done) | skip
 rename_i l;obtain ⟨hb,hk⟩:=bif_none hk;obtain ⟨h1,h2,h3⟩:=holds_eq.1 hb
 exact ⟨[.agg (tmOf l).cells],_,.cons (Cv.of (by rw [<- h1])) .nil,v_clo _,hk,tck_true (tmOf l) h2 h3⟩
end Go.Proofs.YtigmkgampfbflaaGreatDoor
