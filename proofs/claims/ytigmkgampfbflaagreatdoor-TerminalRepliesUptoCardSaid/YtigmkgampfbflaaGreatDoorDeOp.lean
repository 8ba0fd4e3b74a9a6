/-
 The operations of the symbolic evaluator: each as the evaluator does it.
 Conditions: see the theorems.
-/
import Derived.Test.YtigmkgampfbflaaGreatDoorDeOpa
namespace Go.DE
open Go Go.AE
section
variable {α:Type}{st:AE.Stat}{C:Cf}{μ:Mu}{σ:Heap}{σd:DHeap}{P:Program}{r:α}
abbrev CallD (α:Type):=FuncId->List DV->DHeap->(DV->DHeap->Option α)->Option α
theorem DR.sl_inv {t:Bool}{g:Nat->Nat->DV}{k n:Nat}{v:Value}(h:DR C μ (.sl t g k n) v) :
  (∃ (a:Addr) (cap:Nat) (w:Nat->Nat->Value),v=.slice (some a) n cap/\CapOk n k cap/\0<k/\(∀ i f,i<n->f<k->C t a.block a.spot (a.off+i*k+f)=some (w i f)/\(w i f).oneCell'=true)/\∀ i f,i<n->f<k->DR C noMu (g i f) (w i f))\/(n=0/\v=.slice none 0 0):=by
 cases h
 ·exact .inl ⟨_,_,_,rfl,by assumption,by assumption,by assumption,by assumption⟩
 ·exact .inr ⟨rfl,rfl⟩
theorem DR.os_inv {id i len:Nat}{v:Value}(h:DR C μ (.os id i len) v) :
  ∃ b k L off cap,v=.slice (some ⟨b,off,none⟩) len cap/\μ id=some (b,k,L)/\0<k/\((cap<unk/\len<=cap/\(cap=0\/off=i*k/\(i+cap)*k<=L))\/cap=unk+k/\off=i*k):=by
 cases h
 exact ⟨_,_,_,_,_,rfl,by assumption,by assumption,by assumption⟩
theorem DR.pf_inv {t:Bool}{g:Nat->Nat->DV}{k n i f:Nat}{v:Value}(h:DR C μ (.pf t g k n i f) v) :
  ∃ (a:Addr) (w:Nat->Nat->Value),v=.pointer (some ⟨a.block,a.off+i*k+f,a.spot⟩)/\0<k/\0<n/\(∀ i f,i<n->f<k->C t a.block a.spot (a.off+i*k+f)=some (w i f)/\(w i f).oneCell'=true)/\∀ i f,i<n->f<k->DR C noMu (g i f) (w i f):=by
 cases h;rename_i a a' w hk hn h1 h2 ha
 exact ⟨a,w,by rw [ha],hk,hn,h1,h2⟩
theorem DR.po_inv {id i f:Nat}{v:Value}(h:DR C μ (.po id i f) v):∃ b k L,v=.pointer (some ⟨b,i*k+f,none⟩)/\μ id=some (b,k,L)/\0<k:=by
 cases h;rename_i b k L a' hk hm ha
 exact ⟨b,k,L,by rw [ha],hm,hk⟩
def nf1:DV->Bool
 | .os _ _ _=>true
 | .pf _ _ _ _ _ _=>true
 | .po _ _ _=>true
 | .fn _ _ _=>true
 | _=>false
def nfD:DV->Bool
 | .agg cs=>cs.any nf1
 | .tup cs=>cs.any nf1
 | d=>nf1 d
theorem nf1_flat {d:DV}{v:Value}(h:DR C μ d v) (hd:nf1 d=true) (n:Nat):flatD n v=false:=by
 cases h<;>first | (cases hd; done) | (cases n<;>rfl)
theorem any_flat {cs:List DV}{vs:Array Value}(h1:cs.length=vs.size) (h2:∀ (i:Nat) d x,cs[i]?=some d->vs[i]?=some x->DR C μ d x) {p:DV->Bool}(hp:∀ d x,DR C μ d x->p d=true->∀ n,flatD n x=false) (h:cs.any p=true) (n:Nat):vs.toList.all (flatD n)=false:=by
 obtain ⟨d,hd,hpd⟩:=List.any_eq_true.1 h;obtain ⟨i,hi⟩:=List.mem_iff_getElem?.1 hd
 have hlt:i<vs.size:=by have:=(List.getElem?_eq_some_iff.1 hi).1; omega
 have hx:vs[i]?=some vs[i]:=Array.getElem?_eq_getElem hlt
 cases hall:vs.toList.all (flatD n) with
 | false=>rfl
 | true =>
  have:=List.all_eq_true.1 hall vs[i] (by simp)
  rw [hp d _ (h2 i d _ hi hx) hpd n] at this;cases this
theorem nfD_flat {d:DV}{v:Value}(h:DR C μ d v) (hd:nfD d=true):flat v=false:=by
 cases h with
 | agg cs vs h1 h2=>exact any_flat h1 h2 (fun d x hr hn n=>nf1_flat hr hn n) hd 3
 | tup cs vs h1 h2=>exact any_flat h1 h2 (fun d x hr hn n=>nf1_flat hr hn n) hd 3
 | sl=>cases hd
 | slnil=>cases hd
 | any=>cases hd
 | v=>cases hd
 | os=>rfl
 | pf=>rfl
 | po=>rfl
 | fn=>rfl
def slN:List DV->Option Nat
 | []=>none
 | .sl _ _ _ n :: _=>some n
 | _ :: r=>slN r
theorem slN_mem:∀ {l:List DV}{n:Nat},slN l=some n->∃ t g k,DV.sl t g k n∈l
 | [],n,h=>by cases h
 | d :: r,n,h=>by
  cases d with
  | sl t g k m=>obtain rfl:=Option.some.inj h; exact ⟨t,g,k,by simp⟩
  | _=>obtain ⟨t,g,k,hm⟩:=slN_mem (l:=r) h; exact ⟨t,g,k,by simp [hm]⟩
def inner:DV->List DV
 | .agg cs=>cs
 | .tup cs=>cs
 | d=>[d]
def nonflatK (ds:List DV) (k:Option α):Option α :=
 bif ds.any nfD then k else match slN (ds.flatMap inner) with
  | some n=>bif decide (0<n) then k else none
  | none=>match slN ((ds.flatMap inner).flatMap inner) with
   | some n=>bif decide (0<n) then k else none
   | none=>bif ((ds.flatMap inner).flatMap inner).any nf1 then k else none
theorem sl_flat {t:Bool}{g:Nat->Nat->DV}{k n:Nat}{v:Value}(h:DR C μ (.sl t g k n) v) (hn:0<n) (m:Nat):flatD m v=false:=by
 cases h
 ·cases m<;>rfl
 ·omega
theorem all_flat {cs:List DV}{us:Array Value}{c:DV}{m:Nat}(h1:cs.length=us.size) (h2:∀ (i:Nat) d x,cs[i]?=some d->us[i]?=some x->DR C μ d x) (hm:c∈cs) (hc:∀ u,DR C μ c u->flatD m u=false):us.toList.all (flatD m)=false:=by
 obtain ⟨j,hj⟩:=List.mem_iff_getElem?.1 hm
 have hlt:j<us.size:=by have:=(List.getElem?_eq_some_iff.1 hj).1; omega
 have hx:us[j]?=some us[j]:=Array.getElem?_eq_getElem hlt
 cases hall:us.toList.all (flatD m) with
 | false=>rfl
 | true =>
  have:=List.all_eq_true.1 hall us[j] (by simp)
  rw [hc _ (h2 j _ _ hj hx)] at this;cases this
theorem inner_flat {c:DV}{u:Value}{t:Bool}{g:Nat->Nat->DV}{k n:Nat}(h:DR C μ c u) (hin:DV.sl t g k n∈inner c) (hn:0<n) (m:Nat):flatD (m+1) u=false:=by
 cases h with
 | agg cs us h1 h2=>exact all_flat h1 h2 hin fun u hu=>sl_flat hu hn m
 | tup cs us h1 h2=>exact all_flat h1 h2 hin fun u hu=>sl_flat hu hn m
 | sl t' g' k2 n' a cap w hc hk h1 h2=>rfl
 | slnil t' g' k2 =>
  simp only [inner,List.mem_singleton,DV.sl.injEq] at hin;omega
 | _=>simp [inner] at hin
theorem inner2_flat {d c:DV}{v:Value}{t:Bool}{g:Nat->Nat->DV}{k n:Nat}(h:DR C μ d v) (hc:c∈inner d) (hin:DV.sl t g k n∈inner c) (hn:0<n) (m:Nat):flatD (m+2) v=false:=by
 have self:inner d=[d]->flatD (m+2) v=false:=fun e=>by
  rw [e,List.mem_singleton] at hc;subst hc;exact inner_flat h hin hn (m+1)
 cases h with
 | agg cs us h1 h2=>exact all_flat h1 h2 hc fun u hu=>inner_flat hu hin hn m
 | tup cs us h1 h2=>exact all_flat h1 h2 hc fun u hu=>inner_flat hu hin hn m
 | _=>exact self rfl
theorem innerN_flat {c e:DV}{u:Value}(h:DR C μ c u) (hin:e∈inner c) (hn:nf1 e=true) (m:Nat):flatD (m+1) u=false:=by
 have self:inner c=[c]->flatD (m+1) u=false:=fun q=>by
  rw [q,List.mem_singleton] at hin;subst hin;exact nf1_flat h hn (m+1)
 cases h with
 | agg cs us h1 h2=>exact all_flat h1 h2 hin fun u hu=>nf1_flat hu hn m
 | tup cs us h1 h2=>exact all_flat h1 h2 hin fun u hu=>nf1_flat hu hn m
 | _=>exact self rfl
theorem innerN2_flat {d c e:DV}{v:Value}(h:DR C μ d v) (hc:c∈inner d) (hin:e∈inner c) (hn:nf1 e=true) (m:Nat):flatD (m+2) v=false:=by
 have self:inner d=[d]->flatD (m+2) v=false:=fun q=>by
  rw [q,List.mem_singleton] at hc;subst hc;exact innerN_flat h hin hn (m+1)
 cases h with
 | agg cs us h1 h2=>exact all_flat h1 h2 hc fun u hu=>innerN_flat hu hin hn m
 | tup cs us h1 h2=>exact all_flat h1 h2 hc fun u hu=>innerN_flat hu hin hn m
 | _=>exact self rfl
theorem nonflatK_some {ds:List DV}{k:Option α}(h:nonflatK ds k=some r):k=some r/\∀ vs,DRL C μ ds vs->∃ v∈vs,flat v=false:=by
 unfold nonflatK at h
 rcases bif_some h with ⟨h1,h⟩ | ⟨_,h⟩
 ·refine ⟨h,fun vs hr=>?_⟩
  obtain ⟨d,hd,hn⟩:=List.any_eq_true.1 h1;obtain ⟨i,hi⟩:=List.mem_iff_getElem?.1 hd;obtain ⟨v,hv,hdr⟩:=hr.get hi;exact ⟨v,List.mem_of_getElem? hv,nfD_flat hdr hn⟩
 ·split at h
  ·rename_i n hn;obtain ⟨hpos,h⟩:=dec_none h
   refine ⟨h,fun vs hr=>?_⟩
   obtain ⟨t,g,k',hm⟩:=slN_mem hn;obtain ⟨d,hd,hin⟩:=List.mem_flatMap.1 hm;obtain ⟨i,hi⟩:=List.mem_iff_getElem?.1 hd;obtain ⟨v,hv,hdr⟩:=hr.get hi;refine ⟨v,List.mem_of_getElem? hv,?_⟩
   have cell:∀ {cs:List DV}{us:Array Value},cs.length=us.size->(∀ (i:Nat) d x,cs[i]?=some d->us[i]?=some x->DR C μ d x)->DV.sl t g k' n∈cs->us.toList.all (flatD 3)=false:=by
    intro cs us h1 h2 hm;obtain ⟨j,hj⟩:=List.mem_iff_getElem?.1 hm
    have hlt:j<us.size:=by have:=(List.getElem?_eq_some_iff.1 hj).1; omega
    have hx:us[j]?=some us[j]:=Array.getElem?_eq_getElem hlt
    cases hall:us.toList.all (flatD 3) with
    | false=>rfl
    | true =>
     have:=List.all_eq_true.1 hall us[j] (by simp)
     rw [sl_flat (h2 j _ _ hj hx) hpos 3] at this;cases this
   cases hdr with
   | agg cs us h1 h2=>exact cell h1 h2 hin
   | tup cs us h1 h2=>exact cell h1 h2 hin
   | sl t' g' k2 n' a cap w hc hk h1 h2=>rfl
   | slnil t' g' k2 =>
    simp only [inner,List.mem_singleton,DV.sl.injEq] at hin;omega
   | _=>simp [inner] at hin
  ·split at h
   ·rename_i n hn;obtain ⟨hpos,h⟩:=dec_none h
    refine ⟨h,fun vs hr=>?_⟩
    obtain ⟨t,g,k',hm⟩:=slN_mem hn;obtain ⟨c,hc,hin⟩:=List.mem_flatMap.1 hm;obtain ⟨d,hd,hc⟩:=List.mem_flatMap.1 hc;obtain ⟨i,hi⟩:=List.mem_iff_getElem?.1 hd;obtain ⟨v,hv,hdr⟩:=hr.get hi;exact ⟨v,List.mem_of_getElem? hv,inner2_flat hdr hc hin hpos 2⟩
   ·rcases bif_some h with ⟨h1,h⟩ | ⟨_,h⟩
    ·refine ⟨h,fun vs hr=>?_⟩
     obtain ⟨e,he,hn⟩:=List.any_eq_true.1 h1;obtain ⟨c,hc,hin⟩:=List.mem_flatMap.1 he;obtain ⟨d,hd,hc⟩:=List.mem_flatMap.1 hc;obtain ⟨i,hi⟩:=List.mem_iff_getElem?.1 hd;obtain ⟨v,hv,hdr⟩:=hr.get hi;exact ⟨v,List.mem_of_getElem? hv,innerN2_flat hdr hc hin hn 2⟩
    ·cases h
def OpRes (g:Bool) (st:AE.Stat) (C:Cf) (μ:Mu) (σ:Heap) (σd:DHeap) (F:Nat->Nat->Option (Value×Heap)) (k:DV->DHeap->Option α) (r:α):Prop :=
 ∃ v σ' C' μ' d σd',Lim F (v,σ')/\St st C' μ' σ' σd'/\Nx1 g C μ σ σd C' μ' σ' σd'/\DR C' μ' d v/\k d σd'=some r
theorem OpRes.same {g:Bool}{F:Nat->Nat->Option (Value×Heap)}{k:DV->DHeap->Option α}{d:DV}{v:Value}(h:St st C μ σ σd) (hF:∀ n m,F n m=some (v,σ)) (hd:DR C μ d v) (hk:k d σd=some r):OpRes g st C μ σ σd F k r :=
 ⟨v,σ,C,μ,d,σd,.const hF,h,(Nx.refl _ _ _ _).one,hd,hk⟩
def CallS (g:Bool) (P:Program) (st:AE.Stat) (call:CallD α):Prop :=
 ∀ f args σd k r,call f args σd k=some r->∀ C μ σ vs,St st C μ σ σd->DRL C μ args vs->OpRes g st C μ σ σd (fun n m=>enterA P (runF P st n m) f vs σ) k r
def boundD (v:DV) (y:Nat) (k:Nat->Option α):Option α :=
 match v with
 | .v (.int _ i)=>bif decide (0<=i) then (bif decide (i<=(y:Int)) then k i.toNat else none) else none
 | _=>none
theorem boundD_some {d:DV}{v:Value}{y:Nat}{k:Nat->Option α}(hd:DR C μ d v) (h:boundD d y k=some r):∃ m,boundA v y=some m/\m<=y/\k m=some r:=by
 unfold boundD at h;split at h
 ·rename_i kd i;cases hd;obtain ⟨h1,h⟩:=dec_none h;obtain ⟨h2,h⟩:=dec_none h
  exact ⟨i.toNat,by simp only [boundA]; rw [if_pos ⟨h1,h2⟩],by omega,h⟩
 ·cases h
theorem boundA_le {v:Value}{y m:Nat}(h:boundA v y=some m) {z:Nat}(hm:m<=z):boundA v z=some m:=by
 unfold boundA at h ⊢;split at h
 ·rename_i i;split at h
  ·rename_i hi;obtain rfl:=Option.some.inj h
   rw [if_pos ⟨hi.1,by omega⟩]
  ·cases h
 ·cases h
def highD (hi:Option DV) (len:Nat) (k:Nat->Option α):Option α :=
 match hi with
 | none=>k len
 | some d=>boundD d len k
def lowD (lo:Option DV) (h:Nat) (k:Nat->Option α):Option α :=
 match lo with
 | none=>k 0
 | some d=>boundD d h k
def DRO (C:Cf) (μ:Mu) (d:Option DV) (v:Option Value):Prop :=
 match d,v with
 | none,none=>True
 | some d,some v=>DR C μ d v
 | _,_=>False
def highA (hiv:Option Value) (len cap:Nat):Option Nat :=
 match hiv with
 | some v=>boundA v cap
 | none=>some len
theorem boundsA_eq {len cap:Nat}{lov hiv:Option Value}:boundsA len cap lov hiv none=match highA hiv len cap with
  | none=>none
  | some h=>match (match lov with | some v=>boundA v h | none=>some 0) with
   | none=>none
   | some l=>some (l,h,cap):=by cases hiv<;>rfl
theorem bounds_some {lo hi:Option DV}{lov hiv:Option Value}{len:Nat}{k:Nat->Nat->Option α}(hlo:DRO C μ lo lov) (hhi:DRO C μ hi hiv) (hx:highD hi len (fun h=>lowD lo h (fun l=>k l h))=some r) :
  ∃ l h,l<=h/\h<=len/\k l h=some r/\∀ cap,len<=cap->boundsA len cap lov hiv none=some (l,h,cap):=by
 have low:∀ {m:Nat},m<=len->lowD lo m (fun l=>k l m)=some r->(∀ cap,len<=cap->highA hiv len cap=some m) ->
   ∃ l h,l<=h/\h<=len/\k l h=some r/\∀ cap,len<=cap->boundsA len cap lov hiv none=some (l,h,cap):=by
  intro m hle hl hh;unfold lowD at hl;unfold DRO at hlo
  cases lo with
  | none =>
   cases lov with
   | some _=>exact hlo.elim
   | none =>
    refine ⟨0,m,by omega,hle,hl,fun cap hc=>?_⟩
    rw [boundsA_eq,hh cap hc]
  | some d =>
   cases lov with
   | none=>exact hlo.elim
   | some v =>
    obtain ⟨m',h1,h2,h3⟩:=boundD_some hlo hl
    refine ⟨m',m,h2,hle,h3,fun cap hc=>?_⟩
    rw [boundsA_eq,hh cap hc];simp only;rw [h1]
 unfold highD at hx;unfold DRO at hhi
 cases hi with
 | none =>
  cases hiv with
  | some _=>exact hhi.elim
  | none=>exact low (Nat.le_refl _) hx fun cap hc=>rfl
 | some d =>
  cases hiv with
  | none=>exact hhi.elim
  | some v =>
   obtain ⟨m,h1,h2,h3⟩:=boundD_some hhi hx
   exact low h2 h3 fun cap hc=>boundA_le h1 (by omega)
def sizeIs (P:Program) (e:TypeId) (k:Nat):Bool:=match sizeA P e with | some n=>n==k | none=>false
theorem sizeIs_some {e:TypeId}{k:Nat}(h:sizeIs P e k=true):sizeA P e=some k:=by
 unfold sizeIs at h;split at h
 ·rename_i n hn; rw [hn]; simpa using h
 ·cases h
def sliceD (P:Program) (σd:DHeap) (t:TypeId) (x:DV) (lo hi:Option DV) (k:DV->Option α):Option α :=
 match P.underlying t with
 | some (.slice e)=>match x with
  | .sl tg g m n=>bif sizeIs P e m then (bif decide (0<n) then highD hi n fun h=>lowD lo h fun l=>k (.sl tg (fun j f=>g (l+j) f) m (h-l)) else none) else none
  | .os id i len=>match σd[id]? with
   | some (some blk)=>bif sizeIs P e blk.k then highD hi len fun h=>lowD lo h fun l=>k (.os id (i+l) (h-l)) else none
   | _=>none
  | _=>none
 | some (.array n e)=>match x with
  | .po id 0 0=>match σd[id]? with
   | some (some blk)=>bif sizeIs P e blk.k then (bif decide (n<=blk.c.n) then (bif decide (n<unk) then highD hi n fun h=>lowD lo h fun l=>k (.os id l (h-l)) else none) else none) else none
   | _=>none
  | _=>none
 | _=>none
theorem sliceD_some {t:TypeId}{x:DV}{xv:Value}{lo hi:Option DV}{lov hiv:Option Value}{k:DV->Option α}(h:St st C μ σ σd) (hx:DR C μ x xv) (hlo:DRO C μ lo lov) (hhi:DRO C μ hi hiv) (hs:sliceD P σd t x lo hi k=some r) :
  ∃ d v,sliceA P t xv lov hiv none=some v/\DR C μ d v/\flat xv=false/\k d=some r:=by
 unfold sliceD at hs
 split at hs<;>first | (cases hs; done) | skip
 rotate_left
 ·rename_i n e hu
  split at hs<;>first | (cases hs; done) | skip
  rename_i id
  split at hs<;>first | (cases hs; done) | skip
  rename_i blk hbk;obtain ⟨hsz,hs⟩:=bif_none hs;have hsz:=sizeIs_some hsz;obtain ⟨hle,hs⟩:=dec_none hs;obtain ⟨hnu,hs⟩:=dec_none hs;obtain ⟨l,hh,hl1,hl2,hk',hb⟩:=bounds_some (C:=C) (μ:=μ) hlo hhi hs;obtain ⟨b0,L0,lst,h1,h2,h3,h4,h5,h6,h7⟩:=h.own id blk hbk;obtain ⟨b,m,L,rfl,hm,hk⟩:=hx.po_inv;rw [hm] at h1;simp only [Option.some.injEq,Prod.mk.injEq] at h1;obtain ⟨rfl,rfl,rfl⟩:=h1
  refine ⟨_,.slice (some (if n=l then ⟨b,0*blk.k+0,none⟩ else addA ⟨b,0*blk.k+0,none⟩ (l*blk.k))) (hh-l) (n-l),?_,?_,rfl,hk'⟩
  ·unfold sliceA;simp only [hu,hsz];rw [if_pos hnu,hb n (Nat.le_refl _)]
  ·split
   ·exact .os _ _ _ b blk.k L _ _ hm hk (.inl ⟨by omega,by omega,.inl (by omega)⟩)
   ·refine .os _ _ _ b blk.k L _ _ hm hk (.inl ⟨by omega,by omega,.inr ⟨by simp,?_⟩⟩)
    rw [show l+(n-l)=n by omega]
    exact Nat.le_trans (Nat.mul_le_mul_right _ hle) h5
 rename_i e hu
 split at hs<;>first | (cases hs; done) | skip
 ·rename_i tg g m n;obtain ⟨hsz,hs⟩:=bif_none hs;obtain ⟨hpos,hs⟩:=dec_none hs;have hsz:=sizeIs_some hsz;obtain ⟨l,hh,hl1,hl2,hk',hb⟩:=bounds_some (C:=C) (μ:=μ) hlo hhi hs
  rcases hx.sl_inv with ⟨a,cap,w,rfl,hc,hk,h1,h2⟩ | ⟨h0,_⟩
  case inr=>omega
  case inl =>
   have cells:∀ (off':Nat),(hh-l=0\/off'=a.off+l*m)->∀ cap',CapOk (hh-l) m cap'->DR C μ (.sl tg (fun j f=>g (l+j) f) m (hh-l)) (.slice (some ⟨a.block,off',a.spot⟩) (hh-l) cap'):=by
    intro off' ho cap' hc'
    refine .sl _ _ _ _ _ _ (fun j f=>w (l+j) f) hc' hk (fun j f hj hf=>?_) fun j f hj hf=>h2 _ _ (by omega) hf
    have:=h1 (l+j) f (by omega) hf
    have e:off'+j*m+f=a.off+(l+j)*m+f:=by
     rcases ho with ho | ho
     ·omega
     ·rw [ho,Nat.add_mul]; omega
    simp only [e];exact this
   rcases hc with ⟨c1,c2⟩ | c1
   ·refine ⟨_,.slice (some (if cap=l then a else addA a (l*m))) (hh-l) (cap-l),?_,?_,rfl,hk'⟩
    ·unfold sliceA;simp only [hu,hsz];rw [if_pos c1,hb cap c2];simp only
     split<;>rfl
    ·split
     ·exact cells a.off (.inl (by omega)) _ (.inl ⟨by omega,by omega⟩)
     ·exact cells (a.off+l*m) (.inr rfl) _ (.inl ⟨by omega,by omega⟩)
   ·refine ⟨_,.slice (some (addA a (l*m))) (hh-l) cap,?_,cells _ (.inr rfl) _ (.inr c1),rfl,hk'⟩
    have c0:¬ cap<unk:=by omega
    unfold sliceA;simp only [hu,hsz]
    rw [if_neg c0,if_neg (by omega),hb n (Nat.le_refl _)]
    rfl
 ·rename_i id i len
  split at hs<;>first | (cases hs; done) | skip
  rename_i blk hbk;obtain ⟨hsz,hs⟩:=bif_none hs;have hsz:=sizeIs_some hsz;obtain ⟨l,hh,hl1,hl2,hk',hb⟩:=bounds_some (C:=C) (μ:=μ) hlo hhi hs;obtain ⟨b0,L0,lst,h1,h2,h3,h4,h5,h6,h7⟩:=h.own id blk hbk;obtain ⟨b,m,L,off,cap,rfl,hm,hk,hc⟩:=hx.os_inv
  ·rw [hm] at h1;simp only [Option.some.injEq,Prod.mk.injEq] at h1;obtain ⟨rfl,rfl,rfl⟩:=h1
   have e0:∀ x,i*blk.k+l*blk.k+x=(i+l)*blk.k+x:=fun x=>by rw [Nat.add_mul]
   rcases hc with ⟨c1,c2,c3⟩ | ⟨c1,c3⟩
   ·refine ⟨_,.slice (some (if cap=l then ⟨b,off,none⟩ else addA ⟨b,off,none⟩ (l*blk.k))) (hh-l) (cap-l),?_,?_,rfl,hk'⟩
    ·unfold sliceA;simp only [hu,hsz];rw [if_pos c1,hb cap c2];simp only
     split<;>rfl
    ·split
     ·exact .os _ _ _ b blk.k L _ _ hm hk (.inl ⟨by omega,by omega,.inl (by omega)⟩)
     ·refine .os _ _ _ b blk.k L _ _ hm hk (.inl ⟨by omega,by omega,?_⟩)
      rcases c3 with c3 | ⟨c3,c4⟩
      ·exact .inl (by omega)
      ·refine .inr ⟨by rw [c3,Nat.add_mul],?_⟩
       have:i+l+(cap-l)=i+cap:=by omega
       rw [this];exact c4
   ·refine ⟨_,.slice (some (addA ⟨b,off,none⟩ (l*blk.k))) (hh-l) cap,?_,?_,rfl,hk'⟩
    ·have c0:¬ cap<unk:=by omega
     unfold sliceA;simp only [hu,hsz]
     rw [if_neg c0,if_neg (by omega),hb len (Nat.le_refl _)]
     rfl
    ·exact .os _ _ _ b blk.k L _ _ hm hk (.inr ⟨c1,by rw [c3,Nat.add_mul]⟩)
def sliceMD (P:Program) (σd:DHeap) (t:TypeId) (x:DV) (hi mx:DV) (k:DV->Option α):Option α :=
 match P.underlying t with
 | some (.slice e)=>match x with
  | .os id i len=>match σd[id]? with
   | some (some blk)=>bif sizeIs P e blk.k then boundD mx len fun m=>bif decide (i+m<=blk.c.n) then (bif decide (m<unk) then boundD hi m fun h=>k (.os id i h) else none) else none else none
   | _=>none
  | _=>none
 | _=>none
theorem sliceMD_some {t:TypeId}{x:DV}{xv:Value}{hi mx:DV}{hiv mxv:Value}{k:DV->Option α}(h:St st C μ σ σd) (hx:DR C μ x xv) (hhi:DR C μ hi hiv) (hmx:DR C μ mx mxv) (hs:sliceMD P σd t x hi mx k=some r) :
  ∃ d v,sliceA P t xv none (some hiv) (some mxv)=some v/\DR C μ d v/\flat xv=false/\k d=some r:=by
 unfold sliceMD at hs
 split at hs<;>first | (cases hs; done) | skip
 rename_i e hu
 split at hs<;>first | (cases hs; done) | skip
 rename_i id i len
 split at hs<;>first | (cases hs; done) | skip
 rename_i blk hbk;obtain ⟨hsz,hs⟩:=bif_none hs;have hsz:=sizeIs_some hsz;obtain ⟨m,hm1,hm2,hs⟩:=boundD_some hmx hs;obtain ⟨hin,hs⟩:=dec_none hs;obtain ⟨hun,hs⟩:=dec_none hs;obtain ⟨hh,hh1,hh2,hs⟩:=boundD_some hhi hs;obtain ⟨b0,L0,lst,h1,h2,h3,h4,h5,h6,h7⟩:=h.own id blk hbk;obtain ⟨b,m0,L,off,cap,rfl,hm,hk,hc⟩:=hx.os_inv;rw [hm] at h1;simp only [Option.some.injEq,Prod.mk.injEq] at h1;obtain ⟨rfl,rfl,rfl⟩:=h1;have hL:(i+m)*blk.k<=L:=Nat.le_trans (Nat.mul_le_mul_right _ hin) h5
 have hbd:∀ c,len<=c->boundsA len c none (some hiv) (some mxv)=some (0,hh,m):=fun c hc=>by
  unfold boundsA;simp only [boundA_le hm1 (Nat.le_trans hm2 hc),hh1]
 have res:∀ off',(m=0\/off'=i*blk.k)->DR C μ (.os id i hh) (.slice (some ⟨b,off',none⟩) (hh-0) (m-0)):=fun off' ho =>
  .os _ _ _ b blk.k L _ _ hm hk (.inl ⟨by omega,by omega,by
   rcases ho with ho | ho
   ·exact .inl (by omega)
   ·exact .inr ⟨ho,hL⟩⟩)
 rcases hc with ⟨c1,c2,c3⟩ | ⟨c1,c3⟩
 ·refine ⟨_,.slice (some (if m=0 then ⟨b,off,none⟩ else addA ⟨b,off,none⟩ (0*blk.k))) (hh-0) (m-0),?_,?_,rfl,hs⟩
  ·unfold sliceA;simp only [hu,hsz];rw [if_pos c1,hbd cap c2];simp only
   split<;>rfl
  ·split
   ·exact res off (.inl (by omega))
   ·refine res (off+0*blk.k) ?_
    rcases c3 with c3 | ⟨c3,_⟩
    ·exact .inl (by omega)
    ·exact .inr (by omega)
 ·refine ⟨_,.slice (some (if m=0 then ⟨b,off,none⟩ else addA ⟨b,off,none⟩ (0*blk.k))) (hh-0) (m-0),?_,?_,rfl,hs⟩
  ·have c0:¬ cap<unk:=by omega
   unfold sliceA;simp only [hu,hsz]
   rw [if_neg c0,if_neg (by omega),hbd len (Nat.le_refl _)]
   simp only
   split<;>rfl
  ·split
   ·exact res off (.inl (by omega))
   ·exact res (off+0*blk.k) (.inr (by omega))
end
end Go.DE
namespace Go.DE
open Go Go.AE
section
variable {α:Type}{st:AE.Stat}{C:Cf}{μ:Mu}{σ:Heap}{σd:DHeap}{P:Program}{r:α}
theorem DRL.take {ds:List DV}{xs:List Value}(h:DRL C μ ds xs) (n:Nat):DRL C μ (ds.take n) (xs.take n) :=
 ⟨by simp [h.1],fun a e y he hy=>by
  rw [List.getElem?_take] at he hy;split at he
  ·rename_i hlt;rw [if_pos hlt] at hy;exact h.2 a e y he hy
  ·cases he⟩
theorem DRL.drop {ds:List DV}{xs:List Value}(h:DRL C μ ds xs) (n:Nat):DRL C μ (ds.drop n) (xs.drop n) :=
 ⟨by simp [h.1],fun a e y he hy=>by
  rw [List.getElem?_drop] at he hy;exact h.2 _ e y he hy⟩
def idxD (ix:DV) (n:Nat) (k:Nat->Option α):Option α :=
 match ix with
 | .v (.int _ i)=>bif decide (0<=i) then (bif decide (i<(n:Int)) then k i.toNat else none) else none
 | _=>none
theorem idxD_some {ix:DV}{v:Value}{n:Nat}{k:Nat->Option α}(hd:DR C μ ix v) (h:idxD ix n k=some r):∃ kd i,v=.int kd i/\0<=i/\i<(n:Int)/\k i.toNat=some r:=by
 unfold idxD at h;split at h
 ·rename_i kd i;cases hd;obtain ⟨h1,h⟩:=dec_none h;obtain ⟨h2,h⟩:=dec_none h;exact ⟨kd,i,rfl,h1,h2,h⟩
 ·cases h
def indexAddrD (P:Program) (σd:DHeap) (t:TypeId) (x ix:DV) (k:DV->Option α):Option α :=
 match P.underlying t with
 | some (.slice e)=>match x with
  | .sl tg g m n=>bif sizeIs P e m then idxD ix n fun i=>k (.pf tg g m n i 0) else none
  | .os id i0 len=>match σd[id]? with
   | some (some blk)=>bif sizeIs P e blk.k then idxD ix len fun i=>k (.po id (i0+i) 0) else none
   | _=>none
  | _=>none
 | some (.array len e)=>match sizeA P e with
  | some size=>match x with
   | .po id i0 f=>match σd[id]? with
    | some (some blk)=>idxD ix len fun i=>k (bif size==blk.k then .po id (i0+i) f else .po id i0 (f+i*size))
    | _=>none
   | .pf tg g m n i0 f=>idxD ix len fun i=>k (bif size==m then .pf tg g m n (i0+i) f else .pf tg g m n i0 (f+i*size))
   | _=>none
  | none=>none
 | _=>none
theorem indexAddrD_some {t:TypeId}{x ix:DV}{xv iv:Value}{k:DV->Option α}(h:St st C μ σ σd) (hx:DR C μ x xv) (hi:DR C μ ix iv) (hs:indexAddrD P σd t x ix k=some r) :
  ∃ d v,indexAddrA P t xv iv=some v/\DR C μ d v/\flat xv=false/\k d=some r:=by
 unfold indexAddrD at hs
 split at hs<;>first | (cases hs; done) | skip
 ·rename_i e hu
  split at hs<;>first | (cases hs; done) | skip
  ·rename_i tg g m n;obtain ⟨hsz,hs⟩:=bif_none hs;have hsz:=sizeIs_some hsz;obtain ⟨kd,i,rfl,i1,i2,hk'⟩:=idxD_some hi hs
   rcases hx.sl_inv with ⟨a,cap,w,rfl,hc,hk,h1,h2⟩ | ⟨h0,_⟩
   ·refine ⟨_,.pointer (some (addA a (i.toNat*m))),?_,.pf tg g m n i.toNat 0 a _ w hk (by omega) rfl h1 h2,rfl,hk'⟩
    unfold indexAddrA;simp only [hu,hsz];rw [if_pos ⟨i1,i2⟩]
   ·omega
  ·rename_i id i0 len
   split at hs<;>first | (cases hs; done) | skip
   rename_i blk hbk;obtain ⟨hsz,hs⟩:=bif_none hs;have hsz:=sizeIs_some hsz;obtain ⟨kd,i,rfl,i1,i2,hk'⟩:=idxD_some hi hs;obtain ⟨b0,L0,lst,h1,h2,h3,h4,h5,h6,h7⟩:=h.own id blk hbk;obtain ⟨b,m,L,off,cap,rfl,hm,hk,hc⟩:=hx.os_inv;rw [hm] at h1;simp only [Option.some.injEq,Prod.mk.injEq] at h1;obtain ⟨rfl,rfl,rfl⟩:=h1
   have hoff:off=i0*blk.k:=by
    rcases hc with ⟨_,h8,h9 | h9⟩ | h9
    ·omega
    ·exact h9.1
    ·exact h9.2
   refine ⟨_,.pointer (some (addA ⟨b,off,none⟩ (i.toNat*blk.k))),?_,.po id (i0+i.toNat) 0 b blk.k L _ hm hk ?_,rfl,hk'⟩
   ·unfold indexAddrA;simp only [hu,hsz];rw [if_pos ⟨i1,i2⟩]
   ·simp only [addA,hoff,Nat.add_zero,Nat.add_mul]
 ·rename_i len e hu
  split at hs<;>first | (cases hs; done) | skip
  rename_i size hsz
  split at hs<;>first | (cases hs; done) | skip
  ·rename_i id i0 f
   split at hs<;>first | (cases hs; done) | skip
   rename_i blk hbk;obtain ⟨kd,i,rfl,i1,i2,hk'⟩:=idxD_some hi hs;obtain ⟨b,m,L,rfl,hm,hk⟩:=hx.po_inv;obtain ⟨b0,L0,lst,h1,h2,h3,h4,h5,h6,h7⟩:=h.own id blk hbk;rw [hm] at h1;simp only [Option.some.injEq,Prod.mk.injEq] at h1;obtain ⟨rfl,rfl,rfl⟩:=h1;refine ⟨_,.pointer (some (addA ⟨b,i0*blk.k+f,none⟩ (i.toNat*size))),?_,?_,rfl,hk'⟩
   ·unfold indexAddrA;simp only [hu,hsz];rw [if_pos ⟨i1,i2⟩]
   ·cases he:size==blk.k with
    | true =>
     have:size=blk.k:=by simpa using he
     subst this;refine .po id (i0+i.toNat) f b blk.k L _ hm hk ?_;simp only [addA,Nat.add_mul,Addr.mk.injEq,true_and,and_true];omega
    | false =>
     refine .po id i0 (f+i.toNat*size) b blk.k L _ hm hk ?_;simp only [addA,Addr.mk.injEq,true_and,and_true];omega
  ·rename_i tg g m n i0 f;obtain ⟨kd,i,rfl,i1,i2,hk'⟩:=idxD_some hi hs;obtain ⟨a,w,rfl,hk,hn,h1,h2⟩:=hx.pf_inv;refine ⟨_,.pointer (some (addA ⟨a.block,a.off+i0*m+f,a.spot⟩ (i.toNat*size))),?_,?_,rfl,hk'⟩
   ·unfold indexAddrA;simp only [hu,hsz];rw [if_pos ⟨i1,i2⟩]
   ·cases he:size==m with
    | true =>
     have:size=m:=by simpa using he
     subst this;refine .pf tg g size n (i0+i.toNat) f a _ w hk hn ?_ h1 h2;simp only [addA,Nat.add_mul,Addr.mk.injEq,true_and,and_true];omega
    | false =>
     refine .pf tg g m n i0 (f+i.toNat*size) a _ w hk hn ?_ h1 h2;simp only [addA,Addr.mk.injEq,true_and,and_true];omega
def fieldAddrD (P:Program) (s:TypeId) (x:DV) (f:Nat) (k:DV->Option α):Option α :=
 match P.underlying s with
 | some (.struct fields)=>match fields[f]? with
  | some fd=>match sizeA P fd.type with
   | some (_+1)=>match x with
    | .po id i f0=>k (.po id i (f0+fd.offset))
    | .pf tg g m n i f0=>k (.pf tg g m n i (f0+fd.offset))
    | _=>none
   | _=>none
  | none=>none
 | _=>none
theorem fieldAddrD_some {s:TypeId}{x:DV}{xv:Value}{f:Nat}{k:DV->Option α}(hx:DR C μ x xv) (hs:fieldAddrD P s x f k=some r) :
  ∃ d v,fieldAddrA P s xv f=some v/\DR C μ d v/\flat xv=false/\k d=some r:=by
 unfold fieldAddrD at hs
 split at hs<;>first | (cases hs; done) | skip
 rename_i fields hu
 split at hs<;>first | (cases hs; done) | skip
 rename_i fd hfd
 split at hs<;>first | (cases hs; done) | skip
 rename_i sz hsz
 split at hs<;>first | (cases hs; done) | skip
 ·rename_i id i f0;obtain ⟨b,m,L,rfl,hm,hk⟩:=hx.po_inv
  exact ⟨_,.pointer (some (addA ⟨b,i*m+f0,none⟩ fd.offset)),by unfold fieldAddrA; simp only [hu,hfd,hsz],.po _ _ _ b m L _ hm hk (by simp only [addA,Nat.add_assoc]),rfl,hs⟩
 ·rename_i tg g m n i f0;obtain ⟨a,w,rfl,hk,hn,h1,h2⟩:=hx.pf_inv
  exact ⟨_,.pointer (some (addA ⟨a.block,a.off+i*m+f0,a.spot⟩ fd.offset)),by unfold fieldAddrA; simp only [hu,hfd,hsz],.pf tg g m n i (f0+fd.offset) a _ w hk hn (by simp only [addA,Nat.add_assoc]) h1 h2,rfl,hs⟩
def partD (P:Program) (t:TypeId) (l:List DV) (off:Nat):Option DV :=
 match P.underlying t,sizeA P t with
 | some d,some n=>match aggDesc d with
  | true=>some (.agg ((l.drop off).take n))
  | false=>l[off]?
 | _,_=>none
theorem partD_some {t:TypeId}{l:List DV}{cs:Array Value}{off:Nat}{d:DV}(h1:l.length=cs.size) (h2:∀ (i:Nat) d x,l[i]?=some d->cs[i]?=some x->DR C μ d x) (h:partD P t l off=some d):∃ v,partA P t cs off=some v/\DR C μ d v:=by
 have hL:DRL C μ l cs.toList:=⟨by simpa using h1,fun i d x hd hx=>h2 i d x hd (by simpa using hx)⟩
 unfold partD at h;unfold partA;split at h
 ·rename_i dd n hd hn;simp only [hd,hn];split at h
  ·rename_i hag;obtain rfl:=Option.some.inj h;rw [if_pos hag];have:=(hL.drop off).take n
   have e:(cs.extract off (off+n)).toList=(cs.toList.drop off).take n:=by simp [List.extract]
   refine ⟨_,rfl,.agg _ _ ?_ fun i d x hd hx=>this.2 i d x hd ?_⟩
   ·rw [this.1,<- e]; exact Array.length_toList
   ·rw [<- e,Array.getElem?_toList]; exact hx
  ·rename_i hag
   rw [if_neg (by rw [hag]; simp)]
   obtain ⟨x,hx,hr⟩:=hL.get h
   exact ⟨x,by simpa using hx,hr⟩
 ·cases h
def fieldD (P:Program) (t:TypeId) (x:DV) (f:Nat):Option DV :=
 match P.underlying t,x with
 | some (.struct fields),.agg l=>match fields[f]? with
  | some fd=>partD P fd.type l fd.offset
  | none=>none
 | _,_=>none
theorem fieldD_some {t:TypeId}{x:DV}{xv:Value}{f:Nat}{d:DV}(hx:DR C μ x xv) (h:fieldD P t x f=some d):∃ v,fieldA P t xv f=some v/\DR C μ d v:=by
 unfold fieldD at h;split at h
 ·rename_i fields l hu
  cases hx with
  | agg _ vs h1 h2 =>
   split at h
   ·rename_i fd hfd;obtain ⟨v,hv,hr⟩:=partD_some h1 h2 h
    exact ⟨v,by unfold fieldA; simp only [hu,hfd]; exact hv,hr⟩
   ·cases h
 ·cases h
def extractD (x:DV) (i:Nat):Option DV :=
 match x with
 | .tup l=>l[i]?
 | _=>none
def cellsOf (z:Value):List DV :=
 match ofV z with
 | .agg cs=>cs
 | d=>[d]
theorem cellsOf_DRL {z:Value}(h:okV z=true) (ht:z.oneCell'=true\/∃ cs,z=.agg cs):DRL C μ (cellsOf z) z.cells.toList/\(cellsOf z).all oneD=true:=by
 rcases ht with ht | ⟨cs,rfl⟩
 ·rw [one_cells ht];have hr:DR C μ (ofV z) z:=okV_DR h
  have e:ofV z=.v z:=by cases z<;>first | rfl | cases ht
  unfold cellsOf;rw [e] at hr ⊢;exact ⟨.cons hr (.nil _ _),rfl⟩
 ·have h:∀ x∈cs.toList,fl1 x=true:=List.all_eq_true.1 h
  refine ⟨⟨by simp [cellsOf,ofV,cells_agg],fun i d x hd hx=>?_⟩,?_⟩
  ·simp only [cellsOf,ofV,List.getElem?_map] at hd;rw [cells_agg] at hx;rw [hx] at hd;simp only [Option.map_some,Option.some.injEq] at hd;subst hd;exact .v x (h x (List.mem_of_getElem? hx))
  ·simp only [cellsOf,ofV,List.all_map]
   exact List.all_eq_true.2 fun x _=>rfl
def zeroOk (z:Value):Bool:=okV z&&(match z with | .tuple _=>false | _=>true)
theorem zeroOk_some {z:Value}(h:zeroOk z=true):okV z=true/\(z.oneCell'=true\/∃ cs,z=.agg cs):=by
 unfold zeroOk at h;simp only [Bool.and_eq_true] at h;refine ⟨h.1,?_⟩
 cases z<;>first | exact .inl rfl | exact .inr ⟨_,rfl⟩ | (cases h.2)
def zeroD (P:Program) (t:TypeId):Option (List DV) :=
 match zeroA P t with
 | some z=>match zeroOk z with
  | true=>some (cellsOf z)
  | false=>none
 | none=>none
theorem zeroD_some {t:TypeId}{l:List DV}(h:zeroD P t=some l):∃ z,zeroA P t=some z/\DRL C μ l z.cells.toList/\l.all oneD=true:=by
 unfold zeroD at h;split at h
 ·rename_i z hz;split at h
  ·rename_i hok;obtain rfl:=Option.some.inj h;obtain ⟨h1,h2⟩:=zeroOk_some hok;exact ⟨z,hz,(cellsOf_DRL h1 h2).1,(cellsOf_DRL (C:=C) (μ:=μ) h1 h2).2⟩
  ·cases h
 ·cases h
def buildD (P:Program) (t:TypeId) (parts:List (Nat×DV)):Option DV :=
 match zeroD P t with
 | none=>none
 | some z=>match P.underlying t with
  | some (.struct fields)=>match fields.toList.mapM (fun f=>(sizeA P f.type).map fun n=>(f.offset,n)) with
   | some places=>(fillD (fun i=>places.toArray[i]?) z parts).map .agg
   | none=>none
  | some (.array _ e)=>match sizeA P e with
   | some size=>(fillD (fun i=>some (i*size,size)) z parts).map .agg
   | none=>none
  | _=>none
theorem buildD_some {t:TypeId}{ps:List (Nat×DV)}{qs:List (Nat×Value)}{d:DV}(h1:ps.map (·.1)=qs.map (·.1)) (h2:DRL C μ (ps.map (·.2)) (qs.map (·.2))) (h:buildD P t ps=some d):∃ v,buildA P t qs=some v/\DR C μ d v:=by
 have agg:∀ {out:List DV}{vs:Array Value},DRL C μ out vs.toList->DR C μ (.agg out) (.agg vs):=fun h=>.agg _ _ (by simpa using h.1) fun i d x hd hx=>h.2 i d x hd (by simpa using hx)
 unfold buildD at h;unfold buildA;split at h
 ·cases h
 ·rename_i z hz;obtain ⟨zv,e1,e2,_⟩:=zeroD_some (C:=C) (μ:=μ) hz;simp only [e1];split at h
  ·rename_i fields hu;simp only [hu];split at h
   ·rename_i places hp;simp only [hp];simp only [Option.map_eq_some_iff] at h;obtain ⟨out,ho,rfl⟩:=h;obtain ⟨vs,hv,hr⟩:=fillD_some _ ps qs z out zv.cells h1 h2 e2 ho
    exact ⟨.agg vs,by rw [hv]; rfl,agg hr⟩
   ·cases h
  ·rename_i len e hu;simp only [hu];split at h
   ·rename_i size hs;simp only [hs];simp only [Option.map_eq_some_iff] at h;obtain ⟨out,ho,rfl⟩:=h;obtain ⟨vs,hv,hr⟩:=fillD_some _ ps qs z out zv.cells h1 h2 e2 ho
    exact ⟨.agg vs,by rw [hv]; rfl,agg hr⟩
   ·cases h
  ·cases h
def elemK (P:Program) (t:TypeId) (n:Nat):Nat :=
 match P.underlying t with
 | some (.array _ e)=>match sizeA P e with
  | some k=>k
  | none=>n
 | _=>n
def newD (P:Program) (σd:DHeap) (t:TypeId) (cs:List DV) (k:DV->DHeap->Option α):Option α :=
 bif cs.all oneD&&decide (0<elemK P t cs.length) then k (.po σd.length 0 0) (σd++[some (blockOf (elemK P t cs.length) cs)]) else none
theorem newD_some {t:TypeId}{cs:List DV}{xs:List Value}{k:DV->DHeap->Option α}(h:St st C μ σ σd) (hc:DRL C μ cs xs) (hx:newD P σd t cs k=some r) :
  ∃ μ' σd',St st C μ' (newB σ xs).2 σd'/\Nx C μ σ σd C μ' (newB σ xs).2 σd'/\DR C μ' (.po σd.length 0 0) (.pointer (some (newB σ xs).1))/\k (.po σd.length 0 0) σd'=some r:=by
 obtain ⟨hb,hx⟩:=bif_none hx;simp only [Bool.and_eq_true,decide_eq_true_eq] at hb;obtain ⟨h1,h2⟩:=h.pushL hb.2 hc hb.1
 refine ⟨_,_,h1,h2,.po _ _ _ σ.length (elemK P t cs.length) xs.length _ (by simp [Mu.put]) hb.2 ?_,hx⟩
 simp [newB]
def buildSliceD (P:Program) (σd:DHeap) (t:TypeId) (len:Nat) (parts:List (Nat×DV)) (k:DV->DHeap->Option α):Option α :=
 match P.underlying t with
 | some (.slice e)=>match sizeA P e with
  | none=>none
  | some size=>bif decide (len*size<=2 ^ 24)&&decide (len<unk)&&decide (0<size) then (match zeroD P e with
   | none=>none
   | some z=>bif decide (0<z.length) then (match fillD (fun i=>some (i*size,size)) (zerosD z (len*size)) parts with
    | none=>none
    | some cells=>bif cells.all oneD&&cells.length==len*size then k (.os σd.length 0 len) (σd++[some (blockOf size cells)]) else none) else none) else none
 | _=>none
theorem buildSliceD_some {t:TypeId}{len:Nat}{ps:List (Nat×DV)}{qs:List (Nat×Value)}{k:DV->DHeap->Option α}(h:St st C μ σ σd) (h1:ps.map (·.1)=qs.map (·.1)) (h2:DRL C μ (ps.map (·.2)) (qs.map (·.2))) (hx:buildSliceD P σd t len ps k=some r) :
  ∃ v σ' μ' d σd',buildSliceA P σ t len qs=some (v,σ')/\St st C μ' σ' σd'/\Nx C μ σ σd C μ' σ' σd'/\DR C μ' d v/\k d σd'=some r:=by
 unfold buildSliceD at hx
 split at hx<;>first | (cases hx; done) | skip
 rename_i e hu
 split at hx<;>first | (cases hx; done) | skip
 rename_i size hs;obtain ⟨hb,hx⟩:=bif_none hx;simp only [Bool.and_eq_true,decide_eq_true_eq] at hb;obtain ⟨⟨hbig,hlen⟩,hk0⟩:=hb
 split at hx<;>first | (cases hx; done) | skip
 rename_i z hz;obtain ⟨zv,e1,e2,e3⟩:=zeroD_some (C:=C) (μ:=μ) hz;obtain ⟨hzp,hx⟩:=dec_none hx
 split at hx<;>first | (cases hx; done) | skip
 rename_i cells hcl;obtain ⟨hb,hx⟩:=bif_none hx;simp only [Bool.and_eq_true,beq_iff_eq] at hb
 have hzero:(if len*size=0 then some #[] else (zeroA P e).map (·.cells))=some (if len*size=0 then #[] else zv.cells):=by
  split
  ·rfl
  ·rw [e1]; rfl
 have hzs:zerosA (if len*size=0 then #[] else zv.cells) (len*size)=zerosA zv.cells (len*size):=by
  split
  ·rename_i h0; rw [h0]; simp [zerosA]
  ·rfl
 obtain ⟨vs,hv,hr⟩:=fillD_some _ ps qs _ cells (zerosA zv.cells (len*size)).toArray h1 h2 (by simpa using zerosD_DRL e2 (.inr hzp)) hcl
 obtain ⟨g1,g2⟩:=h.pushL hk0 hr hb.1
 have hvl:vs.toList.length=len*size:=by rw [<- hr.1]; exact hb.2
 refine ⟨.slice (some (newB σ vs.toList).1) len len,(newB σ vs.toList).2,_,_,_,?_,g1,g2,.os _ _ _ σ.length size vs.toList.length 0 _ (by simp [Mu.put]) hk0 (.inl ⟨hlen,Nat.le_refl _,.inr ⟨by simp,by rw [hvl]; simp⟩⟩),hx⟩
 unfold buildSliceA;simp only [hu,hs]
 rw [if_neg (by omega),hzero]
 simp only;rw [hzs,hv]
def rowD (z:List DV):Nat->Nat->DV :=
 match z with
 | [d]=>fun _ _=>d
 | z=>fun _ f=>z.getD f .any
theorem rowD_eq {z:List DV}{i f:Nat}(h:f<z.length):rowD z i f=z.getD f .any:=by
 match z,h with
 | [d],h =>
  have:f=0:=by simpa using h
  subst this;rfl
 | [],h=>simp at h
 | _ :: _ :: _,_=>rfl
def makeSliceD (P:Program) (σd:DHeap) (t:TypeId) (len cap:DV) (k:DV->DHeap->Option α):Option α :=
 match P.underlying t,len,cap with
 | some (.slice e),.v (.int _ l),.v (.int _ c)=>match P.info? e with
  | none=>none
  | some i=>match zeroD P e with
   | none=>none
   | some z=>bif z.length==i.size&&decide (0<i.size) then (bif decide (0<=l) then (bif decide (l<=c) then (bif decide (c.toNat<9223372036854775808) then (bif decide (i.bytes*c.toNat<=281474976710656) then
     k (.os σd.length 0 l.toNat) (σd++[some ⟨i.size,.tab l.toNat (rowD z)⟩]) else none) else none) else none) else none) else none
 | _,_,_=>none
theorem makeSliceD_some {t:TypeId}{ld cd:DV}{lv cv:Value}{k:DV->DHeap->Option α}(h:St st C μ σ σd) (hl:DR C μ ld lv) (hc:DR C μ cd cv) (hx:makeSliceD P σd t ld cd k=some r) :
  ∃ v σ' μ' d σd',makeSliceA P σ t lv cv=some (v,σ')/\St st C μ' σ' σd'/\Nx C μ σ σd C μ' σ' σd'/\DR C μ' d v/\k d σd'=some r:=by
 unfold makeSliceD at hx
 split at hx<;>first | (cases hx; done) | skip
 rename_i e kd l kd' c hu;cases hl;cases hc
 split at hx<;>first | (cases hx; done) | skip
 rename_i i hi
 split at hx<;>first | (cases hx; done) | skip
 rename_i z hz;obtain ⟨zv,e1,e2,e3⟩:=zeroD_some (C:=C) (μ:=μ) hz;obtain ⟨hb,hx⟩:=bif_none hx;simp only [Bool.and_eq_true,beq_iff_eq,decide_eq_true_eq] at hb;obtain ⟨c1,hx⟩:=dec_none hx;obtain ⟨c2,hx⟩:=dec_none hx;obtain ⟨c3,hx⟩:=dec_none hx;obtain ⟨c4,hx⟩:=dec_none hx
 have c3:c<9223372036854775808:=by omega
 have c4:(i.bytes:Int)*c<=281474976710656:=by
  have hc:c=(c.toNat:Int):=by omega
  rw [hc];exact (Int.natCast_mul i.bytes c.toNat) ▸ Int.ofNat_le.2 c4
 have hzl:zv.cells.size=i.size:=by rw [<- hb.1,e2.1]; simp
 have hlen:(zerosA zv.cells (c.toNat*i.size)).length=c.toNat*i.size:=by simp [zerosA]
 have hle:l.toNat*i.size<=c.toNat*i.size:=Nat.mul_le_mul_right _ (by omega)
 obtain ⟨g1,g2⟩:=h.push (k:=i.size) (c:=.tab l.toNat (rowD z)) (l:=zerosA zv.cells (c.toNat*i.size)) hb.2 (by rw [hlen]; exact hle) trivial fun a f ha hf=>by
  have hr:=zerosD_DRL (n:=c.toNat*i.size) e2 (.inr (by rw [hb.1]; exact hb.2))
  have hp:=pos_lt (show a<l.toNat from ha) hf
  have hpz:a*i.size+f<(zerosD z (c.toNat*i.size)).length:=by simp [zerosD]; omega
  obtain ⟨v,hv,hdr⟩:=hr.get (List.getElem?_eq_getElem hpz)
  have hd:(zerosD z (c.toNat*i.size))[a*i.size+f]=z.getD f .any:=by
   simp only [zerosD,List.getElem_map,List.getElem_range]
   congr 1
   rw [hb.1,Nat.mul_comm,Nat.mul_add_mod,Nat.mod_eq_of_lt hf]
  rw [hd] at hdr
  have hzf:f<z.length:=by rw [hb.1]; exact hf
  show ∃ v,_/\_/\DR C μ (rowD z a f) v;rw [rowD_eq hzf];refine ⟨v,hv,oneD_one hdr ?_,hdr⟩;rw [List.getD_eq_getElem?_getD,List.getElem?_eq_getElem hzf];exact List.all_eq_true.1 e3 _ (List.getElem_mem hzf)
 refine ⟨.slice (some (newB σ (zerosA zv.cells (c.toNat*i.size))).1) l.toNat c.toNat,(newB σ (zerosA zv.cells (c.toNat*i.size))).2,_,_,_,?_,g1,g2,?_,hx⟩
 ·unfold makeSliceA;simp only [hu,hi];rw [if_pos ⟨c1,c2,c3,c4⟩,e1]
 ·refine .os _ _ _ σ.length i.size (zerosA zv.cells (c.toNat*i.size)).length 0 _ (by simp [Mu.put]) hb.2 (.inl ⟨?_,by omega,.inr ⟨by simp,by rw [hlen]; simp⟩⟩)
  have:unk=9223372036854775808:=rfl;omega
def nilLike:DV->Bool
 | .v (.slice none 0 0)=>true
 | .v (.pointer none)=>true
 | .v .nilFunc=>true
 | _=>false
def fitsD (d:TypeDesc) (x:DV):Bool :=
 match d,x with
 | .slice _,.v (.slice none 0 0)=>true
 | .slice _,.sl _ _ _ _=>true
 | .slice _,.os _ _ _=>true
 | .pointer _,.v (.pointer none)=>true
 | .pointer _,.pf _ _ _ _ _ _=>true
 | .pointer _,.po _ _ _=>true
 | .func _ _ _,.v .nilFunc=>true
 | .func _ _ _,.fn _ _ _=>true
 | _,_=>false
def someK (x:DV) (k:Option α):Option α :=
 match x with
 | .sl _ _ _ n=>bif decide (0<n) then k else none
 | .os _ _ _=>k
 | .pf _ _ _ _ _ _=>k
 | .po _ _ _=>k
 | .fn _ _ _=>k
 | _=>none
def nilTestD (P:Program) (op:BinOp) (t:TypeId) (x y:DV) (k:DV->Option α):Option α :=
 match P.underlying t with
 | some d=>bif fitsD d x&&fitsD d y then
   (bif nilLike y then someK x (match op with | .eql=>k (.v (.bool false)) | .neq=>k (.v (.bool true)) | _=>none)
   else bif nilLike x then someK y (match op with | .eql=>k (.v (.bool false)) | .neq=>k (.v (.bool true)) | _=>none) else none) else none
 | none=>none
theorem fitsD_fits {d:TypeDesc}{x:DV}{v:Value}(h:DR C μ x v) (hf:fitsD d x=true):descFits d v=true:=by
 unfold fitsD at hf
 split at hf<;>first | (cases hf; done) | skip
 all_goals (cases h<;>rfl)
theorem someK_some {x:DV}{v:Value}{k:Option α}(h:DR C μ x v) (hs:someK x k=some r):k=some r/\flat v=false/\∀ y w,nilLike y=true->DR C μ y w->∀ d,descFits d v=true->descFits d w=true->nilEqA v w=some false/\nilEqA w v=some false:=by
 have fin:∀ {y w},nilLike y=true->DR C μ y w->w=.slice none 0 0\/w=.pointer none\/w=.nilFunc:=by
  intro y w hy hw;unfold nilLike at hy
  split at hy<;>first | (cases hy; done) | skip
  all_goals (cases hw; simp)
 unfold someK at hs
 split at hs<;>first | (cases hs; done) | skip
 ·obtain ⟨hp,hs⟩:=dec_none hs
  rcases h.sl_inv with ⟨a,cap,w,rfl,_⟩ | ⟨h0,_⟩
  ·refine ⟨hs,rfl,fun y w hy hw d hd1 hd2=>?_⟩
   rcases fin hy hw with rfl | rfl | rfl
   ·exact ⟨rfl,rfl⟩
   ·cases d<;>simp [descFits] at hd1 hd2
   ·cases d<;>simp [descFits] at hd1 hd2
  ·omega
 ·obtain ⟨b,m,L,off,cap,rfl,_⟩:=h.os_inv
  refine ⟨hs,rfl,fun y w hy hw d hd1 hd2=>?_⟩
  rcases fin hy hw with rfl | rfl | rfl
  ·exact ⟨rfl,rfl⟩
  ·cases d<;>simp [descFits] at hd1 hd2
  ·cases d<;>simp [descFits] at hd1 hd2
 ·obtain ⟨a,w,rfl,_⟩:=h.pf_inv
  refine ⟨hs,rfl,fun y w hy hw d hd1 hd2=>?_⟩
  rcases fin hy hw with rfl | rfl | rfl
  ·cases d<;>simp [descFits] at hd1 hd2
  ·exact ⟨rfl,rfl⟩
  ·cases d<;>simp [descFits] at hd1 hd2
 ·obtain ⟨b,m,L,rfl,_⟩:=h.po_inv
  refine ⟨hs,rfl,fun y w hy hw d hd1 hd2=>?_⟩
  rcases fin hy hw with rfl | rfl | rfl
  ·cases d<;>simp [descFits] at hd1 hd2
  ·exact ⟨rfl,rfl⟩
  ·cases d<;>simp [descFits] at hd1 hd2
 ·cases h
  refine ⟨hs,rfl,fun y w hy hw d hd1 hd2=>?_⟩
  rcases fin hy hw with rfl | rfl | rfl
  ·cases d<;>simp [descFits] at hd1 hd2
  ·cases d<;>simp [descFits] at hd1 hd2
  ·exact ⟨rfl,rfl⟩
theorem nilTestD_some {op:BinOp}{t:TypeId}{x y:DV}{xv yv:Value}{k:DV->Option α}(hx:DR C μ x xv) (hy:DR C μ y yv) (h:nilTestD P op t x y k=some r) :
  ∃ d v,binA P op t xv yv=some v/\DR C μ d v/\(flat xv=false\/flat yv=false)/\k d=some r:=by
 unfold nilTestD at h;split at h
 ·rename_i d hd;obtain ⟨hf,h⟩:=bif_none h;simp only [Bool.and_eq_true] at hf;have f1:=fitsD_fits hx hf.1;have f2:=fitsD_fits hy hf.2
  have ff:(descFits d xv&&descFits d yv)=true:=by rw [f1,f2]; rfl
  have fin:∀ {a b},nilEqA xv yv=some false->(flat xv=false\/flat yv=false)->(match op with | .eql=>k a | .neq=>k b | _=>none)=some r->a=DV.v (.bool false)->b=DV.v (.bool true)->∃ d v,binA P op t xv yv=some v/\DR C μ d v/\(flat xv=false\/flat yv=false)/\k d=some r:=by
   intro a b hn hfl hk ha hb;subst ha;subst hb;unfold binA;simp only [hd,ff,if_true,hn];split at hk
   ·exact ⟨_,_,rfl,.v _ rfl,hfl,hk⟩
   ·exact ⟨_,_,rfl,.v _ rfl,hfl,hk⟩
   ·cases hk
  rcases bif_some h with ⟨hn,h⟩ | ⟨_,h⟩
  ·obtain ⟨h1,h2,h3⟩:=someK_some hx h;exact fin (h3 y yv hn hy d f1 f2).1 (.inl h2) h1 rfl rfl
  ·obtain ⟨hn,h⟩:=bif_none h;obtain ⟨h1,h2,h3⟩:=someK_some hy h;exact fin (h3 x xv hn hx d f2 f1).2 (.inr h2) h1 rfl rfl
 ·cases h
end
end Go.DE
