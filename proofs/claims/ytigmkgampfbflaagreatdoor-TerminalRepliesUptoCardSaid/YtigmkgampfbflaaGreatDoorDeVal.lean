/-
 Data as the symbolic evaluator sees them: numbers and strings,slices by their contents,slices and pointers into blocks of one's own; and how they stand to the evaluator's values.
 Conditions: see the theorems.
-/
import Derived.Test.YtigmkgampfbflaaGreatDoorAeExec
namespace Go.DE
open Go Go.AE
inductive DV where
 | v (x:Value)
 | agg (cs:List DV)
 | tup (cs:List DV)
 | sl (t:Bool) (g:Nat->Nat->DV) (k n:Nat)
 | os (id i len:Nat)
 | pf (t:Bool) (g:Nat->Nat->DV) (k n i f:Nat)
 | po (id i f:Nat)
 | fn (f:Fn) (a b:List DV)
 | any
abbrev Cf:=Bool->Nat->Option Nat->Nat->Option Value
abbrev Mu:=Nat->Option (Nat×Nat×Nat)
def fl1:Value->Bool
 | .bool _=>true
 | .int _ _=>true
 | .string _=>true
 | .pointer none=>true
 | .slice none 0 0=>true
 | .map none=>true
 | .nilFunc=>true
 | .nilIface=>true
 | _=>false
theorem fl1_flat {x:Value}(h:fl1 x=true):flat x=true:=by
 unfold fl1 at h
 split at h<;>first | rfl | cases h
theorem fl1_flatD {x:Value}(h:fl1 x=true) (n:Nat):flatD (n+1) x=true:=by
 unfold fl1 at h
 split at h<;>first | rfl | cases h
theorem fl1_one {x:Value}(h:fl1 x=true):x.oneCell'=true:=by
 unfold fl1 at h
 split at h<;>first | rfl | cases h
theorem fl1_cells {x:Value}(h:fl1 x=true):x.cells=#[x]:=by
 unfold fl1 at h
 split at h<;>first | rfl | cases h
theorem one_cells {x:Value}(h:x.oneCell'=true):x.cells=#[x]:=by
 cases x<;>first | rfl | cases h
def CapOk (n k cap:Nat):Prop:=(cap<unk/\n<=cap)\/cap=unk+k
def noMu:Mu:=fun _=>none
inductive DR (C:Cf):Mu->DV->Value->Prop
 | v {μ:Mu}(x:Value) (h:fl1 x=true):DR C μ (.v x) x
 | agg {μ:Mu}(cs:List DV) (vs:Array Value) (h1:cs.length=vs.size) (h2:∀ (i:Nat) d x,cs[i]?=some d->vs[i]?=some x->DR C μ d x):DR C μ (.agg cs) (.agg vs)
 | tup {μ:Mu}(cs:List DV) (vs:Array Value) (h1:cs.length=vs.size) (h2:∀ (i:Nat) d x,cs[i]?=some d->vs[i]?=some x->DR C μ d x):DR C μ (.tup cs) (.tuple vs)
 | sl {μ:Mu}(t:Bool) (g:Nat->Nat->DV) (k n:Nat) (a:Addr) (cap:Nat) (w:Nat->Nat->Value) (hc:CapOk n k cap) (hk:0<k)
   (h1:∀ i f,i<n->f<k->C t a.block a.spot (a.off+i*k+f)=some (w i f)/\(w i f).oneCell'=true)
   (h2:∀ i f,i<n->f<k->DR C noMu (g i f) (w i f)):DR C μ (.sl t g k n) (.slice (some a) n cap)
 | slnil {μ:Mu}(t:Bool) (g:Nat->Nat->DV) (k:Nat):DR C μ (.sl t g k 0) (.slice none 0 0)
 | os {μ:Mu}(id i len b k L off cap:Nat) (hm:μ id=some (b,k,L)) (hk:0<k)
   (hc:(cap<unk/\len<=cap/\(cap=0\/off=i*k/\(i+cap)*k<=L))\/cap=unk+k/\off=i*k):DR C μ (.os id i len) (.slice (some ⟨b,off,none⟩) len cap)
 | pf {μ:Mu}(t:Bool) (g:Nat->Nat->DV) (k n i f:Nat) (a a':Addr) (w:Nat->Nat->Value) (hk:0<k) (hn:0<n) (ha:a'=⟨a.block,a.off+i*k+f,a.spot⟩)
   (h1:∀ i f,i<n->f<k->C t a.block a.spot (a.off+i*k+f)=some (w i f)/\(w i f).oneCell'=true)
   (h2:∀ i f,i<n->f<k->DR C noMu (g i f) (w i f)):DR C μ (.pf t g k n i f) (.pointer (some a'))
 | po {μ:Mu}(id i f b k L:Nat) (a':Addr) (hm:μ id=some (b,k,L)) (hk:0<k) (ha:a'=⟨b,i*k+f,none⟩):DR C μ (.po id i f) (.pointer (some a'))
 | fn {μ:Mu}(f:Fn) (a b:List DV) (x y:Array Value) (h1:a.length=x.size) (h2:b.length=y.size)
   (h3:∀ (i:Nat) d x',a[i]?=some d->x[i]?=some x'->DR C μ d x') (h4:∀ (i:Nat) d x',b[i]?=some d->y[i]?=some x'->DR C μ d x'):DR C μ (.fn f a b) (.func f x y)
 | any {μ:Mu}(x:Value):DR C μ .any x
def Cf.le (C C':Cf):Prop:=∀ t b s o v,C t b s o=some v->C' t b s o=some v
def Mu.le (μ μ':Mu):Prop:=∀ id x,μ id=some x->μ' id=some x
theorem Cf.le_refl (C:Cf):C.le C:=fun _ _ _ _ _ h=>h
theorem Cf.le_trans {C C1 C2:Cf}(h:C.le C1) (k:C1.le C2):C.le C2:=fun t b s o v x=>k t b s o v (h t b s o v x)
theorem Mu.le_refl (μ:Mu):μ.le μ:=fun _ _ h=>h
theorem Mu.le_trans {μ μ1 μ2:Mu}(h:μ.le μ1) (k:μ1.le μ2):μ.le μ2:=fun id x y=>k id x (h id x y)
theorem DR.mono {C C':Cf}{μ μ':Mu}(hC:C.le C') (hμ:μ.le μ') {d:DV}{x:Value}(h:DR C μ d x):DR C' μ' d x:=by
 induction h generalizing μ' with
 | v x h=>exact .v x h
 | agg cs vs h1 h2 ih=>exact .agg cs vs h1 fun i d x hd hx=>ih i d x hd hx hμ
 | tup cs vs h1 h2 ih=>exact .tup cs vs h1 fun i d x hd hx=>ih i d x hd hx hμ
 | sl t g k n a cap w hc hk h1 h2 ih=>exact .sl t g k n a cap w hc hk (fun i f hi hf=>⟨hC _ _ _ _ _ (h1 i f hi hf).1,(h1 i f hi hf).2⟩) fun i f hi hf=>ih i f hi hf (Mu.le_refl _)
 | slnil t g k=>exact .slnil t g k
 | os id i len b k L off cap hm hk hc=>exact .os id i len b k L off cap (hμ _ _ hm) hk hc
 | pf t g k n i f a a' w hk hn ha h1 h2 ih=>exact .pf t g k n i f a a' w hk hn ha (fun i f hi hf=>⟨hC _ _ _ _ _ (h1 i f hi hf).1,(h1 i f hi hf).2⟩) fun i f hi hf=>ih i f hi hf (Mu.le_refl _)
 | po id i f b k L a' hm hk ha=>exact .po id i f b k L a' (hμ _ _ hm) hk ha
 | fn f a b x y h1 h2 h3 h4 ih3 ih4=>exact .fn f a b x y h1 h2 (fun i d x hd hx=>ih3 i d x hd hx hμ) fun i d x hd hx=>ih4 i d x hd hx hμ
 | any x=>exact .any x
theorem DR.bare {C:Cf}{μ:Mu}{d:DV}{x:Value}(h:DR C noMu d x):DR C μ d x:=h.mono (Cf.le_refl _) fun _ _ e=>by simp [noMu] at e
def DRL (C:Cf) (μ:Mu) (ds:List DV) (xs:List Value):Prop:=ds.length=xs.length/\∀ (i:Nat) d x,ds[i]?=some d->xs[i]?=some x->DR C μ d x
theorem DRL.nil (C:Cf) (μ:Mu):DRL C μ [] []:=⟨rfl,fun i d x h=>by simp at h⟩
theorem DRL.cons {C:Cf}{μ:Mu}{d:DV}{x:Value}{ds:List DV}{xs:List Value}(h:DR C μ d x) (hl:DRL C μ ds xs):DRL C μ (d :: ds) (x :: xs):=by
 refine ⟨by simp [hl.1],fun i e y he hy=>?_⟩
 cases i with
 | zero=>simp at he hy; subst he; subst hy; exact h
 | succ i=>exact hl.2 i e y (by simpa using he) (by simpa using hy)
theorem DRL.cons_inv {C:Cf}{μ:Mu}{d:DV}{ds:List DV}{xs:List Value}(h:DRL C μ (d :: ds) xs):∃ x ys,xs=x :: ys/\DR C μ d x/\DRL C μ ds ys:=by
 cases xs with
 | nil=>simp [DRL] at h
 | cons x ys=>exact ⟨x,ys,rfl,h.2 0 _ _ rfl rfl,by simpa using h.1,fun i e y he hy=>h.2 (i+1) e y (by simpa using he) (by simpa using hy)⟩
theorem DRL.nil_inv {C:Cf}{μ:Mu}{xs:List Value}(h:DRL C μ [] xs):xs=[]:=List.eq_nil_of_length_eq_zero h.1.symm
theorem DRL.mono {C C':Cf}{μ μ':Mu}(hC:C.le C') (hμ:μ.le μ') {ds:List DV}{xs:List Value}(h:DRL C μ ds xs):DRL C' μ' ds xs:=⟨h.1,fun i d x a b=>(h.2 i d x a b).mono hC hμ⟩
theorem DRL.append {C:Cf}{μ:Mu}{a b:List DV}{x y:List Value}(h:DRL C μ a x) (k:DRL C μ b y):DRL C μ (a++b) (x++y):=by
 induction a generalizing x with
 | nil=>obtain rfl:=h.nil_inv; exact k
 | cons d a ih=>obtain ⟨u,us,rfl,h1,h2⟩:=h.cons_inv; exact .cons h1 (ih h2)
theorem DRL.get {C:Cf}{μ:Mu}{ds:List DV}{xs:List Value}(h:DRL C μ ds xs) {i:Nat}{d:DV}(hd:ds[i]?=some d):∃ x,xs[i]?=some x/\DR C μ d x:=by
 have hi:i<xs.length:=h.1 ▸ (List.getElem?_eq_some_iff.1 hd).1;exact ⟨_,List.getElem?_eq_getElem hi,h.2 i _ _ hd (List.getElem?_eq_getElem hi)⟩
theorem DRL.getD {C:Cf}{μ:Mu}{ds:List DV}{xs:List Value}(h:DRL C μ ds xs) (i:Nat) (u:Value):DR C μ (ds.getD i .any) (xs.getD i u):=by
 cases hd:ds[i]? with
 | none=>rw [List.getD_eq_getElem?_getD,hd]; exact .any _
 | some d =>
  obtain ⟨x,hx,hr⟩:=h.get hd;rw [List.getD_eq_getElem?_getD,List.getD_eq_getElem?_getD,hd,hx];exact hr
theorem DRL.set {C:Cf}{μ:Mu}{ds:List DV}{xs:List Value}(h:DRL C μ ds xs) (i:Nat) {d:DV}{x:Value}(hd:DR C μ d x):DRL C μ (ds.set i d) (xs.set i x):=by
 refine ⟨by simp [h.1],fun j e y he hy=>?_⟩
 rw [List.getElem?_set] at he hy;split at he
 ·rename_i hij;subst hij;simp only [if_true] at hy;split at he
  ·split at hy
   ·simp only [Option.some.injEq] at he hy; subst he; subst hy; exact hd
   ·cases hy
  ·cases he
 ·rename_i hij;rw [if_neg hij] at hy;exact h.2 j e y he hy
def isV:DV->Bool
 | .v _=>true
 | _=>false
def val1:DV->Value
 | .v x=>x
 | _=>undef
def isV2:DV->Bool
 | .v _=>true
 | .agg cs=>cs.all isV
 | _=>false
def val2:DV->Value
 | .v x=>x
 | .agg cs=>.agg (cs.map val1).toArray
 | _=>undef
def flD:DV->Bool
 | .v _=>true
 | .agg cs=>cs.all isV
 | .tup cs=>cs.all isV2
 | _=>false
def valD:DV->Value
 | .v x=>x
 | .agg cs=>.agg (cs.map val1).toArray
 | .tup cs=>.tuple (cs.map val2).toArray
 | _=>undef
theorem isV_val {C:Cf}{μ:Mu}{d:DV}{x:Value}(h:DR C μ d x) (hv:isV d=true):x=val1 d/\fl1 x=true:=by
 cases h<;>first | exact ⟨rfl,by assumption⟩ | cases hv
theorem arr_ext {cs:List DV}{vs:Array Value}{f:DV->Value}(h1:cs.length=vs.size) (h:∀ (i:Nat) d x,cs[i]?=some d->vs[i]?=some x->x=f d):vs=(cs.map f).toArray:=by
 apply Array.ext_getElem?
 intro i;simp only [List.getElem?_toArray,List.getElem?_map]
 cases hc:cs[i]? with
 | none =>
  rw [List.getElem?_eq_none_iff] at hc;simp only [Option.map_none];rw [Array.getElem?_eq_none_iff];omega
 | some d =>
  have hi:=(List.getElem?_eq_some_iff.1 hc).1
  have hx:vs[i]?=some (vs[i]'(by omega)):=Array.getElem?_eq_getElem (by omega)
  rw [hx];simp only [Option.map_some,Option.some.injEq];exact h i d _ hc hx
theorem isV2_val {C:Cf}{μ:Mu}{d:DV}{x:Value}(h:DR C μ d x) (hv:isV2 d=true):x=val2 d/\flatD 3 x=true:=by
 cases h<;>first | (cases hv; done) | skip
 case v h=>exact ⟨rfl,fl1_flatD h _⟩
 case agg cs vs h1 h2 =>
  have hall:∀ c∈cs,isV c=true:=by simpa [isV2] using hv
  have he:=arr_ext (f:=val1) h1 fun i d x hd hx=>(isV_val (h2 i d x hd hx) (hall _ (List.mem_of_getElem? hd))).1
  refine ⟨by rw [he]; rfl,?_⟩
  refine List.all_eq_true.2 fun y hy=>?_
  obtain ⟨i,hi⟩:=List.mem_iff_getElem?.1 hy
  have hi':vs[i]?=some y:=by simpa using hi
  have hlt:i<cs.length:=by have:=(Array.getElem?_eq_some_iff.1 hi').1; omega
  have:=h2 i _ y (List.getElem?_eq_getElem hlt) hi';exact fl1_flatD (isV_val this (hall _ (List.getElem_mem hlt))).2 _
theorem flD_val {C:Cf}{μ:Mu}{d:DV}{x:Value}(h:DR C μ d x) (hv:flD d=true):x=valD d/\flat x=true:=by
 cases h<;>first | (cases hv; done) | skip
 case v h=>exact ⟨rfl,fl1_flatD h _⟩
 case agg cs vs h1 h2 =>
  have hall:∀ c∈cs,isV c=true:=by simpa [flD] using hv
  have he:=arr_ext (f:=val1) h1 fun i d x hd hx=>(isV_val (h2 i d x hd hx) (hall _ (List.mem_of_getElem? hd))).1
  refine ⟨by rw [he]; rfl,?_⟩
  refine List.all_eq_true.2 fun y hy=>?_
  obtain ⟨i,hi⟩:=List.mem_iff_getElem?.1 hy
  have hi':vs[i]?=some y:=by simpa using hi
  have hlt:i<cs.length:=by have:=(Array.getElem?_eq_some_iff.1 hi').1; omega
  have:=h2 i _ y (List.getElem?_eq_getElem hlt) hi';exact fl1_flatD (isV_val this (hall _ (List.getElem_mem hlt))).2 _
 case tup cs vs h1 h2 =>
  have hall:∀ c∈cs,isV2 c=true:=by simpa [flD] using hv
  have he:=arr_ext (f:=val2) h1 fun i d x hd hx=>(isV2_val (h2 i d x hd hx) (hall _ (List.mem_of_getElem? hd))).1
  refine ⟨by rw [he]; rfl,?_⟩
  refine List.all_eq_true.2 fun y hy=>?_
  obtain ⟨i,hi⟩:=List.mem_iff_getElem?.1 hy
  have hi':vs[i]?=some y:=by simpa using hi
  have hlt:i<cs.length:=by have:=(Array.getElem?_eq_some_iff.1 hi').1; omega
  have:=h2 i _ y (List.getElem?_eq_getElem hlt) hi';exact (isV2_val this (hall _ (List.getElem_mem hlt))).2
def of1 (x:Value):DV:=.v x
def ok2:Value->Bool
 | .agg cs=>cs.toList.all fl1
 | x=>fl1 x
def of2:Value->DV
 | .agg cs=>.agg (cs.toList.map of1)
 | x=>.v x
def okV:Value->Bool
 | .agg cs=>cs.toList.all fl1
 | .tuple cs=>cs.toList.all ok2
 | x=>fl1 x
def ofV:Value->DV
 | .agg cs=>.agg (cs.toList.map of1)
 | .tuple cs=>.tup (cs.toList.map of2)
 | x=>.v x
theorem of_agg {C:Cf}{μ:Mu}{f:Value->DV}{vs:Array Value}(h:∀ x∈vs.toList,DR C μ (f x) x) (i:Nat) (d:DV) (x:Value) (hd:(vs.toList.map f)[i]?=some d) (hx:vs[i]?=some x):DR C μ d x:=by
 rw [List.getElem?_map] at hd
 have:vs.toList[i]?=some x:=by simpa using hx
 rw [this] at hd;simp only [Option.map_some,Option.some.injEq] at hd;subst hd;exact h x (List.mem_of_getElem? this)
theorem ok2_DR {C:Cf}{μ:Mu}{x:Value}(h:ok2 x=true):DR C μ (of2 x) x:=by
 cases x
 case agg cs =>
  have h:∀ x∈cs.toList,fl1 x=true:=List.all_eq_true.1 h
  exact .agg _ _ (by simp) (of_agg (f:=of1) fun x hx=>.v x (h x hx))
 all_goals exact .v _ h
theorem okV_DR {C:Cf}{μ:Mu}{x:Value}(h:okV x=true):DR C μ (ofV x) x:=by
 cases x
 case agg cs =>
  have h:∀ x∈cs.toList,fl1 x=true:=List.all_eq_true.1 h
  exact .agg _ _ (by simp) (of_agg (f:=of1) fun x hx=>.v x (h x hx))
 case tuple cs =>
  have h:∀ x∈cs.toList,ok2 x=true:=List.all_eq_true.1 h
  exact .tup _ _ (by simp) (of_agg (f:=of2) fun x hx=>ok2_DR (h x hx))
 all_goals exact .v _ h
inductive DC where
 | lst (l:List (List DV))
 | tab (n:Nat) (g:Nat->Nat->DV)
 | upd (c:DC) (i f:Nat) (v:DV)
 | app (c d:DC)
 | pre (c:DC) (m:Nat)
def DC.n:DC->Nat
 | .lst l=>l.length
 | .tab n _=>n
 | .upd c _ _ _=>c.n
 | .app c d=>c.n+d.n
 | .pre _ m=>m
def DC.get:DC->Nat->Nat->DV
 | .lst l,i,f=>(l.getD i []).getD f .any
 | .tab _ g,i,f=>g i f
 | .upd c j e v,i,f=>if i=j/\f=e then v else c.get i f
 | .app c d,i,f=>if i<c.n then c.get i f else d.get (i-c.n) f
 | .pre c _,i,f=>c.get i f
def DC.good:DC->Prop
 | .lst _=>True
 | .tab _ _=>True
 | .upd c _ _ _=>c.good
 | .app c d=>c.good/\d.good
 | .pre c m=>c.good/\m<=c.n
section
variable {α:Type}
def atD:List DV->Nat->(DV->Option α)->Option α
 | [],_,_=>none
 | v :: r,i,k=>bif decide (i=0) then k v else atD r (i-1) k
def atE:List (List DV)->Nat->Nat->(DV->Option α)->Option α
 | [],_,_,_=>none
 | l :: r,i,f,k=>bif decide (i=0) then atD l f k else atE r (i-1) f k
def DC.at:DC->Nat->Nat->(DV->Option α)->Option α
 | .lst l,i,f,k=>atE l i f k
 | .tab n g,i,f,k=>bif decide (i<n) then k (g i f) else none
 | .upd c j e v,i,f,k=>bif decide (i=j) then (bif decide (f=e) then (bif decide (j<c.n) then k v else none) else c.at i f k) else c.at i f k
 | .app c d,i,f,k=>bif decide (i<c.n) then c.at i f k else d.at (i-c.n) f k
 | .pre c m,i,f,k=>bif decide (i<m) then c.at i f k else none
theorem bif_some {b:Bool}{x y:Option α}{r:α}(h:(bif b then x else y)=some r):(b=true/\x=some r)\/(b=false/\y=some r):=by
 cases b
 ·exact .inr ⟨rfl,h⟩
 ·exact .inl ⟨rfl,h⟩
theorem bif_none {b:Bool}{x:Option α}{r:α}(h:(bif b then x else none)=some r):b=true/\x=some r:=by
 cases b
 ·cases h
 ·exact ⟨rfl,h⟩
theorem dec_none {p:Prop} [Decidable p] {x:Option α}{r:α}(h:(bif decide p then x else none)=some r):p/\x=some r:=by
 obtain ⟨h1,h2⟩:=bif_none h;exact ⟨of_decide_eq_true h1,h2⟩
theorem dec_some {p:Prop} [Decidable p] {x y:Option α}{r:α}(h:(bif decide p then x else y)=some r):(p/\x=some r)\/(¬ p/\y=some r):=by
 rcases bif_some h with ⟨h1,h2⟩ | ⟨h1,h2⟩
 ·exact .inl ⟨of_decide_eq_true h1,h2⟩
 ·exact .inr ⟨of_decide_eq_false h1,h2⟩
theorem atD_some {k:DV->Option α}{r:α}:∀ {l:List DV}{i:Nat},atD l i k=some r->i<l.length/\k (l.getD i .any)=some r
 | [],i,h=>by simp [atD] at h
 | v :: l,i,h=>by
  rcases dec_some h with ⟨rfl,h⟩ | ⟨hi,h⟩
  ·exact ⟨by simp,h⟩
  ·obtain ⟨h1,h2⟩:=atD_some h
   obtain ⟨j,rfl⟩:∃ j,i=j+1:=⟨i-1,by omega⟩
   exact ⟨by simpa using h1,by simpa using h2⟩
theorem atE_some {k:DV->Option α}{r:α}:∀ {l:List (List DV)}{i f:Nat},atE l i f k=some r->i<l.length/\k ((l.getD i []).getD f .any)=some r
 | [],i,f,h=>by simp [atE] at h
 | v :: l,i,f,h=>by
  rcases dec_some h with ⟨rfl,h⟩ | ⟨hi,h⟩
  ·exact ⟨by simp,by simpa using (atD_some h).2⟩
  ·obtain ⟨h1,h2⟩:=atE_some h
   obtain ⟨j,rfl⟩:∃ j,i=j+1:=⟨i-1,by omega⟩
   exact ⟨by simpa using h1,by simpa using h2⟩
theorem DC.at_some {k:DV->Option α}{r:α}:∀ {c:DC}{i f:Nat},c.good->c.at i f k=some r->i<c.n/\k (c.get i f)=some r
 | .lst l,i,f,_,h=>atE_some h
 | .tab n g,i,f,_,h=>dec_none h
 | .upd c j e v,i,f,hg,h=>by
  unfold DC.at at h;unfold DC.n DC.get
  rcases dec_some h with ⟨rfl,h⟩ | ⟨hi,h⟩
  ·rcases dec_some h with ⟨hf,h⟩ | ⟨hf,h⟩
   ·obtain ⟨h1,h2⟩:=dec_none h
    exact ⟨h1,by rw [if_pos ⟨rfl,hf⟩]; exact h2⟩
   ·obtain ⟨h1,h2⟩:=DC.at_some (c:=c) hg h
    exact ⟨h1,by rw [if_neg (fun x=>hf x.2)]; exact h2⟩
  ·obtain ⟨h1,h2⟩:=DC.at_some (c:=c) hg h
   exact ⟨h1,by rw [if_neg (fun x=>hi x.1)]; exact h2⟩
 | .app c d,i,f,hg,h=>by
  unfold DC.at at h;unfold DC.n DC.get
  rcases dec_some h with ⟨hi,h⟩ | ⟨hi,h⟩
  ·obtain ⟨h1,h2⟩:=DC.at_some (c:=c) hg.1 h
   exact ⟨by omega,by rw [if_pos hi]; exact h2⟩
  ·obtain ⟨h1,h2⟩:=DC.at_some (c:=d) hg.2 h
   exact ⟨by omega,by rw [if_neg hi]; exact h2⟩
 | .pre c m,i,f,hg,h=>by
  unfold DC.at at h;unfold DC.n DC.get;obtain ⟨h0,h⟩:=dec_none h;exact ⟨h0,(DC.at_some (c:=c) hg.1 h).2⟩
end
structure DBlk where
 k:Nat
 c:DC
abbrev DHeap:=List (Option DBlk)
structure St (st:AE.Stat) (C:Cf) (μ:Mu) (σ:Heap) (σd:DHeap):Prop where
 frz:∀ t b s o v,C t b s o=some v->cellA st σ ⟨b,0,s⟩ o=some v
 own:∀ (id:Nat) blk,σd[id]?=some (some blk)->∃ b L l,μ id=some (b,blk.k,L)/\0<blk.k/\σ[b]?=some (some (.cells l))/\l.length=L/\blk.c.n*blk.k<=L/\blk.c.good /\
  ∀ i f,i<blk.c.n->f<blk.k->∃ v,l[i*blk.k+f]?=some v/\v.oneCell'=true/\DR C μ (blk.c.get i f) v
 sep:∀ (id:Nat) blk b x,σd[id]?=some (some blk)->μ id=some (b,x)->∀ t o,C t b none o=none
 inj:∀ (id id':Nat) blk blk' b x x',σd[id]?=some (some blk)->σd[id']?=some (some blk')->μ id=some (b,x)->μ id'=some (b,x')->id=id'
 dom:∀ id x,μ id=some x->id<σd.length/\x.1<σ.length
 low:∀ t b o v,C t b none o=some v->b<σ.length
 sta:∀ b s o v,st b o=some v->C false b (some s) o=some v
def Live (μ:Mu) (σd:DHeap) (b:Nat):Prop:=∃ (id:Nat) (blk:DBlk) (x:Nat×Nat),σd[id]?=some (some blk)/\μ id=some (b,x)
structure Nx (C:Cf) (μ:Mu) (σ:Heap) (σd:DHeap) (C':Cf) (μ':Mu) (σ':Heap) (σd':DHeap):Prop where
 hC:C.le C'
 hμ:μ.le μ'
 len:σ.length<=σ'.length
 lend:σd.length<=σd'.length
 fr:∀ b,b<σ.length->¬ Live μ σd b->σ'[b]?=σ[b]?
 img:∀ b,Live μ' σd' b->b<σ.length->Live μ σd b
 old:∀ t b s o v,C' t b s o=some v->C t b s o=some v\/(t=false/\s=none/\σ.length<=b)
theorem Nx.refl (C:Cf) (μ:Mu) (σ:Heap) (σd:DHeap):Nx C μ σ σd C μ σ σd:=⟨Cf.le_refl _,Mu.le_refl _,Nat.le_refl _,Nat.le_refl _,fun _ _ _=>rfl,fun _ h _=>h,fun _ _ _ _ _ h=>.inl h⟩
theorem Nx.trans {C C1 C2:Cf}{μ μ1 μ2:Mu}{σ σ1 σ2:Heap}{σd σd1 σd2:DHeap}(h:Nx C μ σ σd C1 μ1 σ1 σd1) (k:Nx C1 μ1 σ1 σd1 C2 μ2 σ2 σd2):Nx C μ σ σd C2 μ2 σ2 σd2 :=
 ⟨Cf.le_trans h.hC k.hC,Mu.le_trans h.hμ k.hμ,Nat.le_trans h.len k.len,Nat.le_trans h.lend k.lend,
  fun b hb hl=>(k.fr b (Nat.lt_of_lt_of_le hb h.len) (fun x=>hl (h.img b x hb))).trans (h.fr b hb hl),
  fun b hl hb=>h.img b (k.img b hl (Nat.lt_of_lt_of_le hb h.len)) hb,fun t b s o v x=>(k.old t b s o v x).elim (h.old t b s o v) fun e=>.inr ⟨e.1,e.2.1,Nat.le_trans h.len e.2.2⟩⟩
def Cf.same (C C':Cf):Prop:=∀ t b s o v,C' t b s o=some v->C t b s o=some v
structure Nx1 (g:Bool) (C:Cf) (μ:Mu) (σ:Heap) (σd:DHeap) (C':Cf) (μ':Mu) (σ':Heap) (σd':DHeap):Prop extends Nx C μ σ σd C' μ' σ' σd' where
 one:g=false->C.same C'
theorem Nx.one {g:Bool}{C:Cf}{μ μ':Mu}{σ σ':Heap}{σd σd':DHeap}(h:Nx C μ σ σd C μ' σ' σd'):Nx1 g C μ σ σd C μ' σ' σd':=⟨h,fun _ _ _ _ _ _ x=>x⟩
theorem Nx1.trans {g:Bool}{C C1 C2:Cf}{μ μ1 μ2:Mu}{σ σ1 σ2:Heap}{σd σd1 σd2:DHeap}(h:Nx1 g C μ σ σd C1 μ1 σ1 σd1) (k:Nx1 g C1 μ1 σ1 σd1 C2 μ2 σ2 σd2):Nx1 g C μ σ σd C2 μ2 σ2 σd2 :=
 ⟨h.toNx.trans k.toNx,fun e t b s o v x=>h.one e t b s o v (k.one e t b s o v x)⟩
structure NxW (C:Cf) (μ:Mu) (σ:Heap) (σd:DHeap) (C':Cf) (μ':Mu) (σ':Heap) (σd':DHeap):Prop where
 hC:C.le C'
 hμ:μ.le μ'
 len:σ.length<=σ'.length
 lend:σd.length<=σd'.length
 fr:∀ b,b<σ.length->¬ Live μ σd b->σ'[b]?=σ[b]?
 img:∀ b,Live μ' σd' b->b<σ.length->Live μ σd b
 old:∀ t b s o v,C' t b s o=some v->C t b s o=some v\/(t=false/\s=none/\(σ.length<=b\/Live μ σd b))
theorem Nx.w {C C':Cf}{μ μ':Mu}{σ σ':Heap}{σd σd':DHeap}(h:Nx C μ σ σd C' μ' σ' σd'):NxW C μ σ σd C' μ' σ' σd' :=
 ⟨h.hC,h.hμ,h.len,h.lend,h.fr,h.img,fun t b s o v x=>(h.old t b s o v x).imp id fun e=>⟨e.1,e.2.1,.inl e.2.2⟩⟩
structure NRel (g:Bool) where
 N:Cf->Mu->Heap->DHeap->Cf->Mu->Heap->DHeap->Prop
 of:∀ {C C':Cf}{μ μ':Mu}{σ σ':Heap}{σd σd':DHeap},Nx1 g C μ σ σd C' μ' σ' σd'->N C μ σ σd C' μ' σ' σd'
 tr:∀ {C C1 C2:Cf}{μ μ1 μ2:Mu}{σ σ1 σ2:Heap}{σd σd1 σd2:DHeap},N C μ σ σd C1 μ1 σ1 σd1->N C1 μ1 σ1 σd1 C2 μ2 σ2 σd2->N C μ σ σd C2 μ2 σ2 σd2
theorem NxW.refl (C:Cf) (μ:Mu) (σ:Heap) (σd:DHeap):NxW C μ σ σd C μ σ σd:=(Nx.refl C μ σ σd).w
theorem NxW.trans {C C1 C2:Cf}{μ μ1 μ2:Mu}{σ σ1 σ2:Heap}{σd σd1 σd2:DHeap}(h:NxW C μ σ σd C1 μ1 σ1 σd1) (k:NxW C1 μ1 σ1 σd1 C2 μ2 σ2 σd2):NxW C μ σ σd C2 μ2 σ2 σd2 :=
 ⟨Cf.le_trans h.hC k.hC,Mu.le_trans h.hμ k.hμ,Nat.le_trans h.len k.len,Nat.le_trans h.lend k.lend,
  fun b hb hl=>(k.fr b (Nat.lt_of_lt_of_le hb h.len) (fun x=>hl (h.img b x hb))).trans (h.fr b hb hl),
  fun b hl hb=>h.img b (k.img b hl (Nat.lt_of_lt_of_le hb h.len)) hb,fun t b s o v x=>(k.old t b s o v x).elim (h.old t b s o v) fun e=>.inr ⟨e.1,e.2.1,by
   rcases Nat.lt_or_ge b σ.length with hb | hb
   ·exact e.2.2.elim (fun q=>.inl (Nat.le_trans h.len q)) fun q=>.inr (h.img b q hb)
   ·exact .inl hb⟩⟩
abbrev NRel.b:(g:Bool)->NRel g
 | true=>⟨NxW,fun h=>h.toNx.w,NxW.trans⟩
 | false=>⟨Nx1 false,fun h=>h,Nx1.trans⟩
end Go.DE
namespace Go.DE
open Go Go.AE
theorem loadN_intro {st:AE.Stat}{σ:Heap}{a:Addr}{n:Nat}{l:List Value}(hn:0<n) (hl:l.length=n) (h:∀ (j:Nat) v,l[j]?=some v->cellA st σ a (a.off+j)=some v):loadN st σ a n=some l:=by
 unfold loadN;unfold cellA at h
 cases hs:a.spot with
 | some s =>
  rw [hs] at h;simp only at h ⊢
  have go:∀ (n off:Nat) (l:List Value),l.length=n->(∀ (j:Nat) v,l[j]?=some v->st a.block (off+j)=some v)->readS (st a.block) off n=some l:=by
   intro n
   induction n with
   | zero=>intro off l hl h; cases l<;>simp_all [readS]
   | succ n ih =>
    intro off l hl h
    cases l with
    | nil=>simp at hl
    | cons v l =>
     have h0:=h 0 v rfl
     have hr:=ih (off+1) l (by simpa using hl) fun j u hu=>by
      have:=h (j+1) u (by simpa using hu)
      rw [<- this]
      congr 1
      omega
     simp only [Nat.add_zero] at h0;simp only [readS,h0,hr]
  exact go n a.off l hl h
 | none =>
  rw [hs] at h;simp only at h ⊢
  have hlast:=h (n-1) l[n-1] (List.getElem?_eq_getElem (by omega))
  cases hb:σ[a.block]? with
  | none=>rw [hb] at hlast; cases hlast
  | some o =>
   cases o with
   | none=>rw [hb] at hlast; cases hlast
   | some b =>
    cases b with
    | map es=>rw [hb] at hlast; cases hlast
    | pmap q es=>rw [hb] at hlast; cases hlast
    | iter s p=>rw [hb] at hlast; cases hlast
    | loop=>rw [hb] at hlast; cases hlast
    | cells k =>
     rw [hb] at hlast h;simp only at hlast h ⊢;have hlt:=(List.getElem?_eq_some_iff.1 hlast).1
     rw [if_pos (by omega)]
     congr 1
     apply List.ext_getElem?
     intro i;rw [List.getElem?_take];split
     ·rename_i hi
      rw [List.getElem?_drop,List.getElem?_eq_getElem (show i<l.length by omega)]
      exact h i _ (List.getElem?_eq_getElem (by omega))
     ·rw [List.getElem?_eq_none (by omega)]
theorem divmod_pos {i f k j:Nat}(_hk:0<k):(i+(f+j) / k)*k+(f+j) % k=i*k+f+j:=by
 have h:=Nat.div_add_mod (f+j) k;rw [Nat.add_mul,Nat.mul_comm ((f+j) / k) k];omega
theorem pos_unique {i f i' f' k:Nat}(hf:f<k) (hf':f'<k) (h:i*k+f=i'*k+f'):i=i'/\f=f':=by
 have hk:0<k:=by omega
 have h1:(i*k+f) / k=i:=by rw [Nat.mul_comm,Nat.mul_add_div hk,Nat.div_eq_of_lt hf]; rfl
 have h2:(i'*k+f') / k=i':=by rw [Nat.mul_comm,Nat.mul_add_div hk,Nat.div_eq_of_lt hf']; rfl
 rw [h,h2] at h1;subst h1
 exact ⟨rfl,by omega⟩
theorem pos_lt {i f n k:Nat}(hi:i<n) (hf:f<k):i*k+f<n*k:=by
 have:(i+1)*k<=n*k:=Nat.mul_le_mul_right k hi;rw [Nat.succ_mul] at this;omega
section
variable {st:AE.Stat}{C:Cf}{μ:Mu}{σ:Heap}{σd:DHeap}
def Mu.put (μ:Mu) (id:Nat) (x:Nat×Nat×Nat):Mu:=fun j=>if j=id then some x else μ j
theorem St.fresh (h:St st C μ σ σd) {id:Nat}(hid:σd.length<=id):μ id=none:=by
 cases hm:μ id with
 | none=>rfl
 | some x=>have:=(h.dom id x hm).1; omega
theorem Mu.le_put {id:Nat}{x:Nat×Nat×Nat}(h:μ id=none):μ.le (μ.put id x):=by
 intro j y hy;unfold Mu.put;split
 ·rename_i e; subst e; rw [h] at hy; cases hy
 ·exact hy
theorem cellA_append {σ:Heap}{b:List (Option Blk)}{a:Addr}{i:Nat}{v:Value}(h:cellA st σ a i=some v):cellA st (σ++b) a i=some v:=by
 unfold cellA at h ⊢;split at h
 ·exact h
 ·rename_i hs;split at h
  ·rename_i l hl;rw [List.getElem?_append_left (List.getElem?_eq_some_iff.1 hl).1,hl];exact h
  ·cases h
theorem St.push (h:St st C μ σ σd) {k:Nat}{c:DC}{l:List Value}(hk:0<k) (hn:c.n*k<=l.length) (hg:c.good)
  (hc:∀ i f,i<c.n->f<k->∃ v,l[i*k+f]?=some v/\v.oneCell'=true/\DR C μ (c.get i f) v) :
  St st C (μ.put σd.length (σ.length,k,l.length)) (σ++[some (.cells l)]) (σd++[some ⟨k,c⟩]) /\
   Nx C μ σ σd C (μ.put σd.length (σ.length,k,l.length)) (σ++[some (.cells l)]) (σd++[some ⟨k,c⟩]):=by
 have hf:=h.fresh (Nat.le_refl _);have hle:=Mu.le_put (x:=(σ.length,k,l.length)) hf
 have hold:∀ {id:Nat}{x},(μ.put σd.length (σ.length,k,l.length)) id=some x->(id=σd.length/\x=(σ.length,k,l.length))\/(id<σd.length/\μ id=some x):=by
  intro id x hx;unfold Mu.put at hx;split at hx
  ·rename_i e; exact .inl ⟨e,(Option.some.inj hx).symm⟩
  ·exact .inr ⟨(h.dom id x hx).1,hx⟩
 have hlive:∀ {id:Nat}{blk},(σd++[some ⟨k,c⟩])[id]?=some (some blk)->(id<σd.length/\σd[id]?=some (some blk))\/(id=σd.length/\blk=⟨k,c⟩):=by
  intro id blk hb
  rcases Nat.lt_or_ge id σd.length with hl | hl
  ·rw [List.getElem?_append_left hl] at hb; exact .inl ⟨hl,hb⟩
  ·rw [List.getElem?_append_right hl] at hb
   cases hx:id-σd.length with
   | zero=>rw [hx] at hb; simp only [List.getElem?_cons_zero,Option.some.injEq] at hb; exact .inr ⟨by omega,hb.symm⟩
   | succ n=>rw [hx] at hb; simp at hb
 refine ⟨⟨fun t b s o v hv=>cellA_append (h.frz t b s o v hv),?_,?_,?_,?_,fun t b o v hv=>by have:=h.low t b o v hv; simp; omega,h.sta⟩,⟨Cf.le_refl _,hle,by simp,by simp,?_,?_,fun _ _ _ _ _ x=>.inl x⟩⟩
 ·intro id blk hb
  rcases hlive hb with ⟨hid,hb⟩ | ⟨rfl,rfl⟩
  ·obtain ⟨b,L,m,h1,h2,h3,h4,h5,h6,h7⟩:=h.own id blk hb
   refine ⟨b,L,m,hle _ _ h1,h2,?_,h4,h5,h6,fun i f hi hf=>?_⟩
   ·rw [List.getElem?_append_left (List.getElem?_eq_some_iff.1 h3).1]; exact h3
   ·obtain ⟨v,hv,ho,hr⟩:=h7 i f hi hf;exact ⟨v,hv,ho,hr.mono (Cf.le_refl _) hle⟩
  ·refine ⟨σ.length,l.length,l,by simp [Mu.put],hk,by simp,rfl,hn,hg,fun i f hi hf=>?_⟩
   obtain ⟨v,hv,ho,hr⟩:=hc i f hi hf;exact ⟨v,hv,ho,hr.mono (Cf.le_refl _) hle⟩
 ·intro id blk b x hb hm t o
  rcases hold hm with ⟨rfl,e⟩ | ⟨hid,hm⟩
  ·cases hx:C t b none o with
   | none=>rfl
   | some v =>
    have:=h.low t b o v hx;simp only [Prod.mk.injEq] at e;omega
  ·rcases hlive hb with ⟨_,hb⟩ | ⟨rfl,rfl⟩
   ·exact h.sep id blk b x hb hm t o
   ·omega
 ·intro id id' blk blk' b x x' hb hb' hm hm'
  rcases hold hm with ⟨rfl,e⟩ | ⟨hid,hm⟩
  ·rcases hold hm' with ⟨rfl,e'⟩ | ⟨hid',hm'⟩
   ·rfl
   ·have h1:=(h.dom id' _ hm').2;simp only [Prod.mk.injEq] at e;simp only at h1;omega
  ·rcases hold hm' with ⟨rfl,e'⟩ | ⟨hid',hm'⟩
   ·have h1:=(h.dom id _ hm).2;simp only [Prod.mk.injEq] at e';simp only at h1;omega
   ·rcases hlive hb with ⟨_,hb⟩ | ⟨rfl,rfl⟩
    ·rcases hlive hb' with ⟨_,hb'⟩ | ⟨rfl,rfl⟩
     ·exact h.inj id id' blk blk' b x x' hb hb' hm hm'
     ·omega
    ·omega
 ·intro id x hm
  rcases hold hm with ⟨rfl,rfl⟩ | ⟨hid,hm⟩
  ·simp
  ·have:=h.dom id x hm;simp;omega
 ·intro b hb _;rw [List.getElem?_append_left hb]
 ·rintro b ⟨id,blk,x,hb,hm⟩ hlt
  rcases hold hm with ⟨rfl,e⟩ | ⟨hid,hm⟩
  ·simp only [Prod.mk.injEq] at e;omega
  ·rcases hlive hb with ⟨_,hb⟩ | ⟨rfl,rfl⟩
   ·exact ⟨id,blk,x,hb,hm⟩
   ·omega
theorem St.put (h:St st C μ σ σd) {id:Nat}{blk:DBlk}{c:DC}{b:Nat}{x:Nat×Nat}{l l':List Value}(hb:σd[id]?=some (some blk)) (hm:μ id=some (b,x)) (hl:σ[b]?=some (some (.cells l))) (hlen:l'.length=l.length)
  (hn:c.n=blk.c.n) (hg:c.good) (hc:∀ i f,i<c.n->f<blk.k->∃ v,l'[i*blk.k+f]?=some v/\v.oneCell'=true/\DR C μ (c.get i f) v) :
  St st C μ (σ.set b (some (.cells l'))) (σd.set id (some ⟨blk.k,c⟩))/\Nx C μ σ σd C μ (σ.set b (some (.cells l'))) (σd.set id (some ⟨blk.k,c⟩)):=by
 have hblt:=(List.getElem?_eq_some_iff.1 hl).1;have hidlt:=(List.getElem?_eq_some_iff.1 hb).1
 have hlive:∀ {j:Nat}{bk},(σd.set id (some ⟨blk.k,c⟩))[j]?=some (some bk)->(j=id/\bk=⟨blk.k,c⟩)\/(j≠id/\σd[j]?=some (some bk)):=by
  intro j bk hj
  by_cases e:id=j
  ·subst e;rw [List.getElem?_set_self hidlt] at hj;simp only [Option.some.injEq] at hj;exact .inl ⟨rfl,hj.symm⟩
  ·rw [List.getElem?_set_ne e] at hj
   exact .inr ⟨fun x=>e x.symm,hj⟩
 have hlive':∀ {j:Nat}{bk},(σd.set id (some ⟨blk.k,c⟩))[j]?=some (some bk)->∃ bk',σd[j]?=some (some bk'):=by
  intro j bk hj
  rcases hlive hj with ⟨rfl,_⟩ | ⟨_,h⟩
  ·exact ⟨_,hb⟩
  ·exact ⟨_,h⟩
 refine ⟨⟨fun t b' s o v hv=>?_,?_,?_,?_,fun j y hy=>by simpa using h.dom j y hy,fun t b o v hv=>by simpa using h.low t b o v hv,h.sta⟩,⟨Cf.le_refl _,Mu.le_refl _,by simp,by simp,?_,?_,fun _ _ _ _ _ x=>.inl x⟩⟩
 ·have hold:=h.frz t b' s o v hv;unfold cellA at hold ⊢
  cases s with
  | some s=>exact hold
  | none =>
   have hne:b≠b':=by
    intro e;subst e;rw [h.sep id blk b x hb hm t o] at hv;cases hv
   simpa only [List.getElem?_set_ne hne] using hold
 ·intro j bk hj
  rcases hlive hj with ⟨rfl,rfl⟩ | ⟨hne,hj⟩
  ·obtain ⟨b0,L,m,h1,h2,h3,h4,h5,h6,h7⟩:=h.own j blk hb;rw [hm] at h1;simp only [Option.some.injEq,Prod.mk.injEq] at h1;obtain ⟨rfl,rfl⟩:=h1;rw [hl] at h3;simp only [Option.some.injEq,Blk.cells.injEq] at h3;subst h3
   refine ⟨b,L,l',hm,h2,List.getElem?_set_self hblt,by omega,by simp only [hn]; exact h5,hg,hc⟩
  ·obtain ⟨b0,L,m,h1,h2,h3,h4,h5,h6,h7⟩:=h.own j bk hj
   have hne':b≠b0:=by
    intro e;subst e;exact hne (h.inj j id bk blk b _ _ hj hb h1 hm)
   exact ⟨b0,L,m,h1,h2,by rw [List.getElem?_set_ne hne']; exact h3,h4,h5,h6,h7⟩
 ·intro j bk b0 y hj hm' t o;obtain ⟨bk',hj'⟩:=hlive' hj;exact h.sep j bk' b0 y hj' hm' t o
 ·intro j j' bk bk' b0 y y' hj hj' hm1 hm2;obtain ⟨_,k1⟩:=hlive' hj;obtain ⟨_,k2⟩:=hlive' hj';exact h.inj j j' _ _ b0 y y' k1 k2 hm1 hm2
 ·intro b0 hb0 hnl
  have:b≠b0:=by
   intro e;subst e;exact hnl ⟨id,blk,x,hb,hm⟩
  rw [List.getElem?_set_ne this]
 ·rintro b0 ⟨j,bk,y,hj,hm'⟩ _
  obtain ⟨bk',hj'⟩:=hlive' hj;exact ⟨j,bk',y,hj',hm'⟩
theorem St.kill (h:St st C μ σ σd) {id:Nat}{blk:DBlk}{b:Nat}{x:Nat×Nat}(hb:σd[id]?=some (some blk)) (hm:μ id=some (b,x)) {σ':Heap}(hlen:σ'.length=σ.length) (hσ:∀ b',b'≠b->σ'[b']?=σ[b']?) :
  St st C μ σ' (σd.set id none)/\Nx C μ σ σd C μ σ' (σd.set id none):=by
 have hidlt:=(List.getElem?_eq_some_iff.1 hb).1
 have hlive:∀ {j:Nat}{bk},(σd.set id none)[j]?=some (some bk)->j≠id/\σd[j]?=some (some bk):=by
  intro j bk hj
  by_cases e:id=j
  ·subst e;rw [List.getElem?_set_self hidlt] at hj;cases hj
  ·rw [List.getElem?_set_ne e] at hj
   exact ⟨fun x=>e x.symm,hj⟩
 refine ⟨⟨fun t b' s o v hv=>?_,?_,?_,?_,fun j y hy=>by have:=h.dom j y hy; simp; omega,fun t b o v hv=>by rw [hlen]; exact h.low t b o v hv,h.sta⟩,⟨Cf.le_refl _,Mu.le_refl _,by omega,by simp,?_,?_,fun _ _ _ _ _ x=>.inl x⟩⟩
 ·have hold:=h.frz t b' s o v hv;unfold cellA at hold ⊢
  cases s with
  | some s=>exact hold
  | none =>
   have hne:b'≠b:=by
    intro e;subst e;rw [h.sep id blk b' x hb hm t o] at hv;cases hv
   simpa only [hσ b' hne] using hold
 ·intro j bk hj;obtain ⟨hne,hj⟩:=hlive hj;obtain ⟨b0,L,m,h1,h2,h3,h4,h5,h6,h7⟩:=h.own j bk hj
  have hne':b0≠b:=by
   intro e;subst e;exact hne (h.inj j id bk blk b0 _ _ hj hb h1 hm)
  exact ⟨b0,L,m,h1,h2,by rw [hσ b0 hne']; exact h3,h4,h5,h6,h7⟩
 ·intro j bk b0 y hj hm' t o;exact h.sep j bk b0 y (hlive hj).2 hm' t o
 ·intro j j' bk bk' b0 y y' hj hj' hm1 hm2;exact h.inj j j' _ _ b0 y y' (hlive hj).2 (hlive hj').2 hm1 hm2
 ·intro b0 hb0 hnl;refine hσ b0 ?_;intro e;subst e;exact hnl ⟨id,blk,x,hb,hm⟩
 ·rintro b0 ⟨j,bk,y,hj,hm'⟩ _
  exact ⟨j,bk,y,(hlive hj).2,hm'⟩
theorem St.name (h:St st C μ σ σd) {b k L:Nat}{c:DC}{l:List Value}(hk:0<k) (hl:σ[b]?=some (some (.cells l))) (hL:l.length=L) (hn:c.n*k<=L) (hg:c.good)
  (hc:∀ i f,i<c.n->f<k->∃ v,l[i*k+f]?=some v/\v.oneCell'=true/\DR C μ (c.get i f) v) (hfree:∀ t o,C t b none o=none) (hnl:¬ Live μ σd b) :
  St st C (μ.put σd.length (b,k,L)) σ (σd++[some ⟨k,c⟩]):=by
 have hf:=h.fresh (Nat.le_refl _);have hblt:=(List.getElem?_eq_some_iff.1 hl).1;have hle:=Mu.le_put (x:=(b,k,L)) hf
 have hold:∀ {id:Nat}{x},(μ.put σd.length (b,k,L)) id=some x->(id=σd.length/\x=(b,k,L))\/(id<σd.length/\μ id=some x):=by
  intro id x hx;unfold Mu.put at hx;split at hx
  ·rename_i e; exact .inl ⟨e,(Option.some.inj hx).symm⟩
  ·exact .inr ⟨(h.dom id x hx).1,hx⟩
 have hlive:∀ {id:Nat}{blk},(σd++[some ⟨k,c⟩])[id]?=some (some blk)->(id<σd.length/\σd[id]?=some (some blk))\/(id=σd.length/\blk=⟨k,c⟩):=by
  intro id blk hb
  rcases Nat.lt_or_ge id σd.length with hl | hl
  ·rw [List.getElem?_append_left hl] at hb; exact .inl ⟨hl,hb⟩
  ·rw [List.getElem?_append_right hl] at hb
   cases hx:id-σd.length with
   | zero=>rw [hx] at hb; simp only [List.getElem?_cons_zero,Option.some.injEq] at hb; exact .inr ⟨by omega,hb.symm⟩
   | succ n=>rw [hx] at hb; simp at hb
 refine ⟨h.frz,?_,?_,?_,?_,h.low,h.sta⟩
 ·intro id blk hb
  rcases hlive hb with ⟨hid,hb⟩ | ⟨rfl,rfl⟩
  ·obtain ⟨b,L,m,h1,h2,h3,h4,h5,h6,h7⟩:=h.own id blk hb
   refine ⟨b,L,m,hle _ _ h1,h2,h3,h4,h5,h6,fun i f hi hf=>?_⟩
   obtain ⟨v,hv,ho,hr⟩:=h7 i f hi hf;exact ⟨v,hv,ho,hr.mono (Cf.le_refl _) hle⟩
  ·refine ⟨b,L,l,by simp [Mu.put],hk,hl,hL,hn,hg,fun i f hi hf=>?_⟩
   obtain ⟨v,hv,ho,hr⟩:=hc i f hi hf;exact ⟨v,hv,ho,hr.mono (Cf.le_refl _) hle⟩
 ·intro id blk b' x hb hm t o
  rcases hold hm with ⟨rfl,e⟩ | ⟨hid,hm⟩
  ·simp only [Prod.mk.injEq] at e;rw [e.1];exact hfree t o
  ·rcases hlive hb with ⟨_,hb⟩ | ⟨rfl,rfl⟩
   ·exact h.sep id blk b' x hb hm t o
   ·omega
 ·intro id id' blk blk' b' x x' hb hb' hm hm'
  rcases hold hm with ⟨rfl,e⟩ | ⟨hid,hm⟩
  ·rcases hold hm' with ⟨rfl,e'⟩ | ⟨hid',hm'⟩
   ·rfl
   ·simp only [Prod.mk.injEq] at e
    rcases hlive hb' with ⟨_,hb'⟩ | ⟨rfl,rfl⟩
    ·exact absurd ⟨id',blk',x',hb',e.1 ▸ hm'⟩ hnl
    ·omega
  ·rcases hold hm' with ⟨rfl,e'⟩ | ⟨hid',hm'⟩
   ·simp only [Prod.mk.injEq] at e'
    rcases hlive hb with ⟨_,hb⟩ | ⟨rfl,rfl⟩
    ·exact absurd ⟨id,blk,x,hb,e'.1 ▸ hm⟩ hnl
    ·omega
   ·rcases hlive hb with ⟨_,hb⟩ | ⟨rfl,rfl⟩
    ·rcases hlive hb' with ⟨_,hb'⟩ | ⟨rfl,rfl⟩
     ·exact h.inj id id' blk blk' b' x x' hb hb' hm hm'
     ·omega
    ·omega
 ·intro id x hm
  rcases hold hm with ⟨rfl,rfl⟩ | ⟨hid,hm⟩
  ·exact ⟨by simp,hblt⟩
  ·have:=h.dom id x hm;simp;omega
end
section
variable {α:Type}{st:AE.Stat}{C:Cf}{μ:Mu}{σ:Heap}{σd:DHeap}{P:Program}{r:α}
def cellD (σd:DHeap) (p:DV) (j:Nat) (k:DV->Option α):Option α :=
 match p with
 | .pf _ g m n i f=>bif decide (i+(f+j) / m<n) then k (g (i+(f+j) / m) ((f+j) % m)) else none
 | .po id i f=>match σd[id]? with
  | some (some blk)=>blk.c.at (i+(f+j) / blk.k) ((f+j) % blk.k) k
  | _=>none
 | _=>none
theorem cellD_some {p:DV}{x:Value}{j:Nat}{k:DV->Option α}(h:St st C μ σ σd) (hp:DR C μ p x) (hx:cellD σd p j k=some r) :
  ∃ a d v,x=.pointer (some a)/\cellA st σ a (a.off+j)=some v/\v.oneCell'=true/\DR C μ d v/\k d=some r:=by
 cases hp<;>first | (cases hx; done) | skip
 case pf t g m n i f a a' w hk hn ha h1 h2 =>
  obtain ⟨hlt,hk'⟩:=dec_none hx;have hm:=Nat.mod_lt (f+j) hk;refine ⟨_,_,w _ _,rfl,?_,(h1 _ _ hlt hm).2,(h2 _ _ hlt hm).bare,hk'⟩;have:=h.frz _ _ _ _ _ (h1 _ _ hlt hm).1;subst ha;unfold cellA at this ⊢
  have e:a.off+(i+(f+j) / m)*m+(f+j) % m=a.off+i*m+f+j:=by
   have:=divmod_pos (i:=i) (f:=f) (j:=j) hk;omega
  rw [e] at this;exact this
 case po id i f b m L a' hk ha hm =>
  unfold cellD at hx;simp only at hx;split at hx
  ·rename_i blk hb;obtain ⟨b0,L0,l,h1,h2,h3,h4,h5,h6,h7⟩:=h.own id blk hb;obtain ⟨hlt,hk'⟩:=DC.at_some h6 hx;have hmod:=Nat.mod_lt (f+j) h2;obtain ⟨v,hv,ho,hr⟩:=h7 _ _ hlt hmod;rw [hm] at h1;simp only [Option.some.injEq,Prod.mk.injEq] at h1;obtain ⟨rfl,rfl,rfl⟩:=h1;refine ⟨_,_,v,rfl,?_,ho,hr,hk'⟩;subst ha;unfold cellA;simp only [h3];rw [divmod_pos h2] at hv;exact hv
  ·cases hx
def readD (σd:DHeap) (p:DV):Nat->Nat->(List DV->Option α)->Option α
 | 0,_,k=>k []
 | n+1,j,k=>cellD σd p j fun d=>readD σd p n (j+1) fun l=>k (d :: l)
theorem readD_some {p:DV}{a:Addr}(h:St st C μ σ σd) (hp:DR C μ p (.pointer (some a))):∀ {n j:Nat}{k:List DV->Option α},readD σd p n j k=some r ->
  ∃ ds l,l.length=n/\(∀ (i:Nat) v,l[i]?=some v->cellA st σ a (a.off+j+i)=some v/\v.oneCell'=true)/\DRL C μ ds l/\k ds=some r
 | 0,j,k,hx=>⟨[],[],rfl,fun i v hv=>by simp at hv,.nil _ _,hx⟩
 | n+1,j,k,hx=>by
  obtain ⟨a',d,v,e,h1,h2,h3,h4⟩:=cellD_some h hp hx
  obtain rfl:a=a':=by simpa using e
  obtain ⟨ds,l,k1,k2,k3,k4⟩:=readD_some h hp h4
  refine ⟨d :: ds,v :: l,by simp [k1],fun i u hu=>?_,.cons h3 k3,k4⟩
  cases i with
  | zero=>simp only [List.getElem?_cons_zero,Option.some.injEq] at hu; subst hu; exact ⟨h1,h2⟩
  | succ i =>
   have:=k2 i u (by simpa using hu)
   rw [show a.off+j+(i+1)=a.off+(j+1)+i by omega]
   exact this
def loadD (P:Program) (σd:DHeap) (t:TypeId) (p:DV) (k:DV->Option α):Option α :=
 match P.underlying t with
 | some d=>match aggDesc d with
  | true=>match sizeA P t with
   | some (n+1)=>readD σd p (n+1) 0 fun l=>k (.agg l)
   | _=>none
  | false=>cellD σd p 0 k
 | none=>none
theorem isPtr_of_readD {p:DV}{x:Value}{n j:Nat}{k:List DV->Option α}(h:St st C μ σ σd) (hp:DR C μ p x) (hx:readD σd p (n+1) j k=some r):∃ a,x=.pointer (some a):=by
 obtain ⟨a,_,_,e,_⟩:=cellD_some h hp hx;exact ⟨a,e⟩
theorem loadD_some {t:TypeId}{p:DV}{x:Value}{k:DV->Option α}(h:St st C μ σ σd) (hp:DR C μ p x) (hx:loadD P σd t p k=some r):∃ a d v,x=.pointer (some a)/\loadV P st σ t a=some v/\DR C μ d v/\k d=some r:=by
 unfold loadD at hx;split at hx
 ·rename_i d hd;split at hx
  ·rename_i hag;split at hx
   ·rename_i n hn;obtain ⟨a,rfl⟩:=isPtr_of_readD h hp hx;obtain ⟨ds,l,k1,k2,k3,k4⟩:=readD_some h hp hx
    refine ⟨a,_,.agg l.toArray,rfl,?_,.agg _ _ (by simpa using k3.1) (fun i e y he hy=>k3.2 i e y he (by simpa using hy)),k4⟩
    unfold loadV;simp only [hd,hag,if_true,hn]
    rw [loadN_intro (by omega) k1 fun j v hv=>by simpa using (k2 j v hv).1]
    rfl
   ·cases hx
  ·rename_i hag;obtain ⟨a,d',v,rfl,h1,h2,h3,h4⟩:=cellD_some h hp hx;refine ⟨a,d',v,rfl,?_,h3,h4⟩;unfold loadV;simp only [hd,hag,Bool.false_eq_true,if_false]
   have hl:loadN st σ a 1=some [v]:=loadN_intro (by omega) rfl fun j u hu=>by
    cases j with
    | zero=>simp only [List.getElem?_cons_zero,Option.some.injEq] at hu; subst hu; exact h1
    | succ j=>simp at hu
   rw [hl]
 ·cases hx
def cellsD:DV->Option (List DV)
 | .agg cs=>some cs
 | .tup _=>none
 | .any=>none
 | d=>some [d]
theorem cells_agg {vs:Array Value}:(Value.agg vs).cells=vs:=rfl
def oneD:DV->Bool
 | .agg _=>false
 | .tup _=>false
 | .any=>false
 | _=>true
theorem oneD_one {d:DV}{x:Value}(h:DR C μ d x) (hd:oneD d=true):x.oneCell'=true:=by
 cases h<;>first | rfl | (exact fl1_one (by assumption)) | cases hd
theorem cellsD_some {d:DV}{x:Value}{ds:List DV}(h:DR C μ d x) (hd:cellsD d=some ds):DRL C μ ds x.cells.toList:=by
 cases h with
 | v x hx=>obtain rfl:=Option.some.inj hd; rw [fl1_cells hx]; exact .cons (.v x hx) (.nil _ _)
 | agg cs vs h1 h2=>obtain rfl:=Option.some.inj hd; exact ⟨by rw [cells_agg]; simpa using h1,fun i e y he hy=>h2 i e y he (by rw [cells_agg] at hy; simpa using hy)⟩
 | tup=>cases hd
 | any=>cases hd
 | sl t g k n a cap w hc hk h1 h2=>obtain rfl:=Option.some.inj hd; exact .cons (.sl t g k n a cap w hc hk h1 h2) (.nil _ _)
 | slnil t g k=>obtain rfl:=Option.some.inj hd; exact .cons (.slnil t g k) (.nil _ _)
 | os id i len b k L off cap hm hk hc=>obtain rfl:=Option.some.inj hd; exact .cons (.os id i len b k L off cap hm hk hc) (.nil _ _)
 | pf t g k n i f a a' w hk hn ha h1 h2=>obtain rfl:=Option.some.inj hd; exact .cons (.pf t g k n i f a a' w hk hn ha h1 h2) (.nil _ _)
 | po id i f b k L a' hm hk ha=>obtain rfl:=Option.some.inj hd; exact .cons (.po id i f b k L a' hm hk ha) (.nil _ _)
 | fn f a b x y h1 h2 h3 h4=>obtain rfl:=Option.some.inj hd; exact .cons (.fn f a b x y h1 h2 h3 h4) (.nil _ _)
def updC (k:Nat):DC->Nat->Nat->List DV->DC
 | c,_,_,[]=>c
 | c,i,f,d :: r=>updC k (.upd c (i+f / k) (f % k) d) i (f+1) r
theorem updC_n {k:Nat}:∀ {vs:List DV}{c:DC}{i f:Nat},(updC k c i f vs).n=c.n
 | [],_,_,_=>rfl
 | d :: r,c,i,f=>by rw [updC,updC_n]; rfl
theorem updC_good {k:Nat}:∀ {vs:List DV}{c:DC}{i f:Nat},c.good->(updC k c i f vs).good
 | [],_,_,_,h=>h
 | d :: r,c,i,f,h=>by rw [updC]; exact updC_good h
theorem updC_get {k:Nat}(hk:0<k):∀ {vs:List DV}{c:DC}{i f i' f':Nat},f'<k ->
  (updC k c i f vs).get i' f'=if i*k+f<=i'*k+f'/\i'*k+f'<i*k+f+vs.length then vs.getD (i'*k+f'-(i*k+f)) .any else c.get i' f'
 | [],c,i,f,i',f',hf=>by
  rw [if_neg (fun h=>by have:=h.2; simp only [List.length_nil] at this; omega)]
  rfl
 | d :: r,c,i,f,i',f',hf=>by
  rw [updC,updC_get hk hf];have hpos:=divmod_pos (i:=i) (f:=f) (j:=0) hk;simp only [Nat.add_zero] at hpos
  have hu:(DC.upd c (i+f / k) (f % k) d).get i' f'=if i'*k+f'=i*k+f then d else c.get i' f':=by
   show (if i'=i+f / k/\f'=f % k then d else c.get i' f')=_
   by_cases e:i'*k+f'=i*k+f
   ·obtain ⟨rfl,rfl⟩:=pos_unique hf (Nat.mod_lt f hk) (e.trans hpos.symm);simp only [and_self,if_true];rw [if_pos e]
   ·rw [if_neg e,if_neg]
    rintro ⟨rfl,rfl⟩
    exact e hpos
  rw [hu,List.length_cons]
  by_cases e:i'*k+f'=i*k+f
  ·rw [if_pos e,if_neg (by omega),if_pos (by omega),e,Nat.sub_self]
   rfl
  ·rw [if_neg e]
   by_cases e2:i*k+f<=i'*k+f'/\i'*k+f'<i*k+f+(r.length+1)
   ·rw [if_pos (by omega),if_pos e2,show i'*k+f'-(i*k+f)=(i'*k+f'-(i*k+(f+1)))+1 by omega]
    rfl
   ·rw [if_neg (by omega),if_neg e2]
def storeD (P:Program) (σd:DHeap) (t:TypeId) (p d:DV) (k:DHeap->Option α):Option α :=
 match p with
 | .po id i f=>match σd[id]? with
  | some (some blk)=>match sizeA P t,cellsD d with
   | some (n+1),some cs=>bif cs.length==n+1&&cs.all oneD then (bif decide (i+(f+n) / blk.k<blk.c.n) then k (σd.set id (some ⟨blk.k,updC blk.k blk.c i f cs⟩)) else none) else none
   | _,_=>none
  | _=>none
 | _=>none
theorem storeD_some {t:TypeId}{p d:DV}{x y:Value}{k:DHeap->Option α}(h:St st C μ σ σd) (hp:DR C μ p x) (hd:DR C μ d y) (hx:storeD P σd t p d k=some r) :
  ∃ a σ' σd',x=.pointer (some a)/\storeV P σ t a y=some σ'/\St st C μ σ' σd'/\Nx C μ σ σd C μ σ' σd'/\k σd'=some r:=by
 cases hp<;>first | (cases hx; done) | skip
 case po id i f b m L a' hk ha hm =>
  unfold storeD at hx;simp only at hx;split at hx
  ·rename_i blk hb;split at hx
   ·rename_i n cs hn hcs;obtain ⟨h0,hx⟩:=bif_none hx;obtain ⟨hlt,hx⟩:=dec_none hx;simp only [Bool.and_eq_true,beq_iff_eq,List.all_eq_true] at h0;have hcells:=cellsD_some hd hcs;obtain ⟨b0,L0,l,h1,h2,h3,h4,h5,h6,h7⟩:=h.own id blk hb;rw [hm] at h1;simp only [Option.some.injEq,Prod.mk.injEq] at h1;obtain ⟨rfl,rfl,rfl⟩:=h1
    have hlen:y.cells.toList.length=n+1:=by rw [<- hcells.1]; exact h0.1
    have hone:∀ v∈y.cells.toList,v.oneCell'=true:=by
     intro v hv;obtain ⟨j,hj⟩:=List.mem_iff_getElem?.1 hv
     have hjl:j<cs.length:=by have:=(List.getElem?_eq_some_iff.1 hj).1; omega
     exact oneD_one (hcells.2 j _ v (List.getElem?_eq_getElem hjl) hj) (h0.2 _ (List.getElem_mem hjl))
    have hend:i*blk.k+f+(n+1)<=l.length:=by
     have e:=divmod_pos (i:=i) (f:=f) (j:=n) h2;have:=pos_lt hlt (Nat.mod_lt (f+n) h2);omega
    let l':=l.take (i*blk.k+f)++y.cells.toList++l.drop (i*blk.k+f+y.cells.toList.length)
    have ht:(l.take (i*blk.k+f)).length=i*blk.k+f:=by simp; omega
    have hl':l'.length=l.length:=by simp only [l',List.length_append,ht,List.length_drop,hlen]; omega
    obtain ⟨hS,hN⟩:=h.put (c:=updC blk.k blk.c i f cs) (l':=l') hb hm h3 hl' updC_n (updC_good h6) fun i' f' hi' hf'=>by
     rw [updC_n] at hi';rw [updC_get h2 hf']
     by_cases e:i*blk.k+f<=i'*blk.k+f'/\i'*blk.k+f'<i*blk.k+f+cs.length
     ·rw [if_pos e]
      have hj:i'*blk.k+f'-(i*blk.k+f)<cs.length:=by omega
      obtain ⟨v,hv,hr⟩:=hcells.get (List.getElem?_eq_getElem hj);refine ⟨v,?_,hone v (List.mem_of_getElem? hv),?_⟩
      ·simp only [l']
       rw [List.append_assoc,List.getElem?_append_right (by omega),ht,List.getElem?_append_left (by omega)]
       exact hv
      ·rw [List.getD_eq_getElem?_getD,List.getElem?_eq_getElem hj];exact hr
     ·rw [if_neg e];obtain ⟨v,hv,ho,hr⟩:=h7 i' f' hi' hf';refine ⟨v,?_,ho,hr⟩;rw [<- hv];simp only [l']
      by_cases e2:i'*blk.k+f'<i*blk.k+f
      ·rw [List.append_assoc,List.getElem?_append_left (by omega),List.getElem?_take,if_pos e2]
      ·rw [List.append_assoc,List.getElem?_append_right (by omega),ht,List.getElem?_append_right (by omega),List.getElem?_drop]
       congr 1
       omega
    refine ⟨a',_,_,rfl,?_,hS,hN,hx⟩;unfold storeV;rw [hn];simp only
    have hsz:y.cells.size=n+1:=by simpa using hlen
    rw [if_pos hsz];unfold storeN;subst ha;simp only [h3];rw [if_pos];simp only [Bool.and_eq_true,decide_eq_true_eq,List.all_eq_true]
    exact ⟨by omega,hone⟩
   ·cases hx
  ·cases hx
end
end Go.DE
