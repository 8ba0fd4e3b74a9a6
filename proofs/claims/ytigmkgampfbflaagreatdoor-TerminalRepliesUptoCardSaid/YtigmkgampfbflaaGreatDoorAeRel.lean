/-
 How the evaluator's values and heap stand to the model's: a renaming of blocks,and the steps that keep it.
 Conditions: see the theorems.
-/
import Derived.Test.YtigmkgampfbflaaGreatDoorAeDef
import Derived.Laws.CopyRow
import Derived.Laws.Append
import Derived.ChangeKeysEq
namespace Go.AE
open Go Go.RowKit
abbrev Ren:=Nat->Option (Nat×Nat×Nat)
abbrev HF:=Nat->Option Blk
def hp (σ:Heap):HF:=fun id=>(σ[id]?).join
def addrOk (ρ:Ren) (a a':Addr):Prop :=
 a'.spot=none/\((∃ s,a.spot=some s/\a'.block=a.block/\a'.off=a.off) \/
  (a.spot=none/\∃ b base n,ρ a.block=some (b,base,n)/\a'.block=b/\a'.off=base+a.off))
inductive VR (ρ:Ren):Value->Value->Prop
 | bool (b:Bool):VR ρ (.bool b) (.bool b)
 | int (k:IntKind) (n:Int):VR ρ (.int k n) (.int k n)
 | float (k:FloatKind) (n:Nat):VR ρ (.float k n) (.float k n)
 | complex (k:FloatKind) (m n:Nat):VR ρ (.complex k m n) (.complex k m n)
 | string (s:ByteArray):VR ρ (.string s) (.string s)
 | pnil:VR ρ (.pointer none) (.pointer none)
 | ptr (a a':Addr) (h:addrOk ρ a a'):VR ρ (.pointer (some a)) (.pointer (some a'))
 | snil:VR ρ (.slice none 0 0) (.slice none 0 0)
 | sliceX (a a':Addr) (len cap:Nat) (h1:cap<unk) (h2:len<=cap) (h3:cap=0\/addrOk ρ a a'):VR ρ (.slice (some a) len cap) (.slice (some a') len cap)
 | sliceU (a a':Addr) (len cap cap' sz:Nat) (h0:cap=unk+sz) (h1:cap'<unk) (h2:len<=cap')
   (h3:cap'=0\/(addrOk ρ a a'/\a.spot=none/\∃ b base n,ρ a.block=some (b,base,n)/\base+a.off+cap'*sz<=n)):VR ρ (.slice (some a) len cap) (.slice (some a') len cap')
 | nilFunc:VR ρ .nilFunc .nilFunc
 | func (fn:Fn) (x y x' y':Array Value) (h1:x.size=x'.size) (h2:y.size=y'.size) (h3:∀ (i:Nat) v v',x[i]?=some v->x'[i]?=some v'->VR ρ v v')
   (h4:∀ (i:Nat) v v',y[i]?=some v->y'[i]?=some v'->VR ρ v v'):VR ρ (.func fn x y) (.func fn x' y')
 | nilIface:VR ρ .nilIface .nilIface
 | iface (t:TypeId) (v v':Value) (h:VR ρ v v'):VR ρ (.iface t v) (.iface t v')
 | mnil:VR ρ (.map none) (.map none)
 | map (r b x y:Nat) (h:ρ r=some (b,x,y)):VR ρ (.map (some r)) (.map (some b))
 | agg (x x':Array Value) (h1:x.size=x'.size) (h2:∀ (i:Nat) v v',x[i]?=some v->x'[i]?=some v'->VR ρ v v'):VR ρ (.agg x) (.agg x')
 | tuple (x x':Array Value) (h1:x.size=x'.size) (h2:∀ (i:Nat) v v',x[i]?=some v->x'[i]?=some v'->VR ρ v v'):VR ρ (.tuple x) (.tuple x')
 | any (v:Value) (h:v.oneCell'=true):VR ρ (.chan none) v
 | yield (l l' x y:Nat) (h:ρ l=some (l',x,y)):VR ρ (.chan (some l)) (.func (.yield l') #[] #[])
def VRL (ρ:Ren) (l l':List Value):Prop:=l.length=l'.length/\∀ (i:Nat) v v',l[i]?=some v->l'[i]?=some v'->VR ρ v v'
def VRA (ρ:Ren) (x x':Array Value):Prop:=x.size=x'.size/\∀ (i:Nat) v v',x[i]?=some v->x'[i]?=some v'->VR ρ v v'
theorem VRL.of_array {ρ:Ren}{x x':Array Value}(h:VRA ρ x x'):VRL ρ x.toList x'.toList:=⟨by simpa using h.1,fun i v v' hv hv'=>h.2 i v v' (by simpa using hv) (by simpa using hv')⟩
theorem VRA.of_list {ρ:Ren}{x x':Array Value}(h:VRL ρ x.toList x'.toList):VRA ρ x x':=⟨by simpa using h.1,fun i v v' hv hv'=>h.2 i v v' (by simpa using hv) (by simpa using hv')⟩
theorem VRA.mk_list {ρ:Ren}{l l':List Value}(h:VRL ρ l l'):VRA ρ l.toArray l'.toArray:=.of_list (by simpa using h)
theorem VR.agg' {ρ:Ren}{x x':Array Value}(h:VRA ρ x x'):VR ρ (.agg x) (.agg x'):=.agg _ _ h.1 h.2
theorem VR.tuple' {ρ:Ren}{x x':Array Value}(h:VRA ρ x x'):VR ρ (.tuple x) (.tuple x'):=.tuple _ _ h.1 h.2
theorem VRL.nil (ρ:Ren):VRL ρ [] []:=⟨rfl,fun i v v' h=>by simp at h⟩
theorem VRL.cons {ρ:Ren}{v v':Value}{l l':List Value}(h:VR ρ v v') (hl:VRL ρ l l'):VRL ρ (v :: l) (v' :: l'):=by
 refine ⟨by simp [hl.1],fun i x x' hx hx'=>?_⟩
 cases i with
 | zero=>simp at hx hx'; subst hx; subst hx'; exact h
 | succ i=>exact hl.2 i x x' (by simpa using hx) (by simpa using hx')
theorem VRL.cons_inv {ρ:Ren}{v:Value}{l l':List Value}(h:VRL ρ (v :: l) l'):∃ v' k,l'=v' :: k/\VR ρ v v'/\VRL ρ l k:=by
 cases l' with
 | nil=>simp [VRL] at h
 | cons v' k=>exact ⟨v',k,rfl,h.2 0 v v' rfl rfl,by simpa using h.1,fun i x x' hx hx'=>h.2 (i+1) x x' (by simpa using hx) (by simpa using hx')⟩
theorem VRL.nil_inv {ρ:Ren}{l':List Value}(h:VRL ρ [] l'):l'=[]:=List.eq_nil_of_length_eq_zero h.1.symm
theorem VRL.append {ρ:Ren}{a a' b b':List Value}(h:VRL ρ a a') (k:VRL ρ b b'):VRL ρ (a++b) (a'++b'):=by
 refine ⟨by simp [h.1,k.1],fun i x x' hx hx'=>?_⟩
 by_cases hi:i<a.length
 ·rw [List.getElem?_append_left hi] at hx
  rw [List.getElem?_append_left (by rw [<- h.1]; exact hi)] at hx'
  exact h.2 i x x' hx hx'
 ·rw [List.getElem?_append_right (by omega)] at hx
  rw [List.getElem?_append_right (by rw [<- h.1]; omega),<- h.1] at hx'
  exact k.2 _ x x' hx hx'
theorem VRL.take {ρ:Ren}{a a':List Value}(h:VRL ρ a a') (n:Nat):VRL ρ (a.take n) (a'.take n):=by
 refine ⟨by simp [h.1],fun i x x' hx hx'=>?_⟩
 rw [List.getElem?_take] at hx hx';split at hx
 ·rename_i hin;rw [if_pos hin] at hx';exact h.2 i x x' hx hx'
 ·cases hx
theorem VRL.drop {ρ:Ren}{a a':List Value}(h:VRL ρ a a') (n:Nat):VRL ρ (a.drop n) (a'.drop n) :=
 ⟨by simp [h.1],fun i x x' hx hx'=>h.2 (n+i) x x' (by simpa [List.getElem?_drop] using hx) (by simpa [List.getElem?_drop] using hx')⟩
theorem VRL.get {ρ:Ren}{a a':List Value}(h:VRL ρ a a') {i:Nat}{v:Value}(hv:a[i]?=some v):∃ v',a'[i]?=some v'/\VR ρ v v':=by
 have hi:i<a'.length:=by rw [<- h.1]; exact (List.getElem?_eq_some_iff.1 hv).1
 exact ⟨a'[i],List.getElem?_eq_getElem hi,h.2 i v _ hv (List.getElem?_eq_getElem hi)⟩
theorem VRA.get {ρ:Ren}{a a':Array Value}(h:VRA ρ a a') {i:Nat}{v:Value}(hv:a[i]?=some v):∃ v',a'[i]?=some v'/\VR ρ v v':=by
 have:=(VRL.of_array h).get (i:=i) (v:=v) (by simpa using hv)
 simpa using this
def Ren.le (ρ ρ':Ren):Prop:=∀ id x,ρ id=some x->ρ' id=some x
theorem addrOk.mono {ρ ρ':Ren}(h:ρ.le ρ') {a a':Addr}(ha:addrOk ρ a a'):addrOk ρ' a a' :=
 ⟨ha.1,ha.2.imp id fun ⟨hs,b,base,n,hr,hx⟩=>⟨hs,b,base,n,h _ _ hr,hx⟩⟩
theorem VR.mono {ρ ρ':Ren}(h:ρ.le ρ') {v v':Value}(hv:VR ρ v v'):VR ρ' v v':=by
 induction hv with
 | bool b=>exact .bool b
 | int k n=>exact .int k n
 | float k n=>exact .float k n
 | complex k m n=>exact .complex k m n
 | string s=>exact .string s
 | pnil=>exact .pnil
 | ptr a a' ha=>exact .ptr a a' (ha.mono h)
 | snil=>exact .snil
 | sliceX a a' len cap h1 h2 h3=>exact .sliceX a a' len cap h1 h2 (h3.imp id (·.mono h))
 | sliceU a a' len cap cap' sz h0 h1 h2 h3 =>
  exact .sliceU a a' len cap cap' sz h0 h1 h2 (h3.imp id fun ⟨x,y,b,base,n,hr,hb⟩=>⟨x.mono h,y,b,base,n,h _ _ hr,hb⟩)
 | nilFunc=>exact .nilFunc
 | func fn x y x' y' h1 h2 _ _ ih3 ih4=>exact .func fn x y x' y' h1 h2 ih3 ih4
 | nilIface=>exact .nilIface
 | iface t v v' _ ih=>exact .iface t v v' ih
 | mnil=>exact .mnil
 | map r b x y hr=>exact .map r b x y (h _ _ hr)
 | agg x x' h1 _ ih=>exact .agg x x' h1 ih
 | tuple x x' h1 _ ih=>exact .tuple x x' h1 ih
 | any v hv=>exact .any v hv
 | yield l l' x y hr=>exact .yield l l' x y (h _ _ hr)
theorem VRL.mono {ρ ρ':Ren}(h:ρ.le ρ') {l l':List Value}(hv:VRL ρ l l'):VRL ρ' l l':=⟨hv.1,fun i v v' a b=>(hv.2 i v v' a b).mono h⟩
theorem VRA.mono {ρ ρ':Ren}(h:ρ.le ρ') {l l':Array Value}(hv:VRA ρ l l'):VRA ρ' l l':=⟨hv.1,fun i v v' a b=>(hv.2 i v v' a b).mono h⟩
theorem flatD_VR (ρ:Ren):∀ (n:Nat) (v:Value),flatD n v=true->VR ρ v v:=by
 intro n
 induction n with
 | zero=>intro v h; simp [flatD] at h
 | succ n ih =>
  have arr:∀ cs:Array Value,cs.toList.all (flatD n)=true->∀ (i:Nat) v v',cs[i]?=some v->cs[i]?=some v'->VR ρ v v':=by
   intro cs h i v v' hv hv';have e:v=v':=Option.some.inj (hv.symm.trans hv');subst e
   exact ih v (List.all_eq_true.1 h v (by have:=List.mem_of_getElem? (l:=cs.toList) (i:=i) (a:=v) (by simpa using hv); exact this))
  intro v h
  cases v with
  | bool b=>exact .bool b
  | int k n=>exact .int k n
  | float k n=>exact .float k n
  | complex k m n=>exact .complex k m n
  | string s=>exact .string s
  | pointer a=>cases a with
   | none=>exact .pnil
   | some a=>simp [flatD] at h
  | slice a len cap=>cases a with
   | none=>cases len with
    | zero=>cases cap with
     | zero=>exact .snil
     | succ c=>simp [flatD] at h
    | succ l=>simp [flatD] at h
   | some a=>simp [flatD] at h
  | map r=>cases r with
   | none=>exact .mnil
   | some r=>simp [flatD] at h
  | chan r=>simp [flatD] at h
  | func fn x y=>simp [flatD] at h
  | nilFunc=>exact .nilFunc
  | iface t v=>exact .iface t v v (ih v (by simpa [flatD] using h))
  | nilIface=>exact .nilIface
  | agg cs=>exact .agg cs cs rfl (arr cs (by simpa [flatD] using h))
  | tuple cs=>exact .tuple cs cs rfl (arr cs (by simpa [flatD] using h))
theorem flat_VR (ρ:Ren) {v:Value}(h:flat v=true):VR ρ v v:=flatD_VR ρ 4 v h
theorem VR_flatD (ρ:Ren):∀ (n:Nat) (v v':Value),flatD n v=true->VR ρ v v'->v'=v:=by
 intro n
 induction n with
 | zero=>intro v v' h; simp [flatD] at h
 | succ n ih =>
  have arr:∀ cs cs':Array Value,cs.toList.all (flatD n)=true->cs.size=cs'.size->(∀ (i:Nat) v v',cs[i]?=some v->cs'[i]?=some v'->VR ρ v v')->cs'=cs:=by
   intro cs cs' h hs hv
   apply Array.ext hs.symm
   intro i hi hi';have:=hv i cs[i] cs'[i] (Array.getElem?_eq_getElem hi') (Array.getElem?_eq_getElem hi);refine ih _ _ (List.all_eq_true.1 h _ ?_) this;exact Array.getElem_mem_toList hi'
  intro v v' h hv
  cases hv with
  | bool b=>rfl
  | int k n=>rfl
  | float k n=>rfl
  | complex k m n=>rfl
  | string s=>rfl
  | pnil=>rfl
  | ptr a a' ha=>simp [flatD] at h
  | snil=>rfl
  | sliceX a a' len cap h1 h2 h3=>simp [flatD] at h
  | sliceU a a' len cap cap' sz h0 h1 h2 h3=>simp [flatD] at h
  | nilFunc=>rfl
  | func fn x y x' y' h1 h2 _ _=>simp [flatD] at h
  | nilIface=>rfl
  | iface t v v' hx=>rw [ih v v' (by simpa [flatD] using h) hx]
  | mnil=>rfl
  | map r b x y hr=>simp [flatD] at h
  | agg x x' h1 h2=>rw [arr x x' (by simpa [flatD] using h) h1 h2]
  | tuple x x' h1 h2=>rw [arr x x' (by simpa [flatD] using h) h1 h2]
  | any v hv=>simp [flatD] at h
  | yield l l' x y hr=>simp [flatD] at h
theorem VR_flat {ρ:Ren}{v v':Value}(h:flat v=true) (hv:VR ρ v v'):v'=v:=VR_flatD ρ 4 v v' h hv
theorem VR.oneCell {ρ:Ren}{v v':Value}(h:VR ρ v v') (h1:v.oneCell'=true):v'.oneCell'=true:=by
 cases h<;>first | rfl | exact h1 | assumption
theorem VR.cells_any {ρ:Ren}{v v':Value}(h:VR ρ v v'):VRL ρ v.cells.toList v'.cells.toList:=by
 have one:∀ {v v':Value},VR ρ v v'->(v.cells=#[v])->(v'.cells=#[v'])->VRL ρ v.cells.toList v'.cells.toList:=by
  intro v v' h e e';rw [e,e'];exact .cons h (.nil ρ)
 cases h with
 | agg x x' h1 h2=>exact VRL.of_array ⟨h1,h2⟩
 | tuple x x' h1 h2=>exact one (.tuple x x' h1 h2) rfl rfl
 | any u hv=>exact one (.any _ hv) rfl (by cases v'<;>first | rfl | simp [Value.oneCell'] at hv)
 | bool b=>exact one (.bool b) rfl rfl
 | int k n=>exact one (.int k n) rfl rfl
 | float k n=>exact one (.float k n) rfl rfl
 | complex k m n=>exact one (.complex k m n) rfl rfl
 | string s=>exact one (.string s) rfl rfl
 | pnil=>exact one .pnil rfl rfl
 | ptr a a' ha=>exact one (.ptr a a' ha) rfl rfl
 | snil=>exact one .snil rfl rfl
 | sliceX a a' len cap h1 h2 h3=>exact one (.sliceX a a' len cap h1 h2 h3) rfl rfl
 | sliceU a a' len cap cap' sz h0 h1 h2 h3=>exact one (.sliceU a a' len cap cap' sz h0 h1 h2 h3) rfl rfl
 | nilFunc=>exact one .nilFunc rfl rfl
 | func fn x y x' y' h1 h2 h3 h4=>exact one (.func fn x y x' y' h1 h2 h3 h4) rfl rfl
 | nilIface=>exact one .nilIface rfl rfl
 | iface t v v' hx=>exact one (.iface t v v' hx) rfl rfl
 | mnil=>exact one .mnil rfl rfl
 | yield l l' x y hr=>exact one (.yield l l' x y hr) rfl rfl
 | map r b x y hr=>exact one (.map r b x y hr) rfl rfl
def freeF (fz:Nat×Nat) (n:Nat):Prop:=∀ i,i<n->¬ (fz.1<=i/\i<fz.2)
theorem freeF_zero (n:Nat):freeF (0,0) n:=fun i _ h=>by omega
def contentOk (ρ:Ren) (base n:Nat):Blk->Obj->Prop
 | .cells l,o=>∃ cs ty fz,o=.cells cs ty fz/\freeF fz n/\cs.size=n/\base+l.length<=n/\∀ (i:Nat) v,l[i]?=some v->∃ v',cs[base+i]?=some v'/\VR ρ v v'
 | .map es,o=>∃ entries clock,o=.map entries clock/\entries.size=es.length/\∀ (i:Nat) k v,es[i]?=some (k,v)->∃ e:MapEntry,entries[i]?=some e/\e.key=k/\flat k=true/\VR ρ v e.val
 | .pmap q es,o=>∃ entries clock,o=.map entries clock/\∀ k v,(k,v)∈es->∃ j u,Instr.findNow (.int q) k entries.toList 0=some (some (j,u))/\VR ρ v u
 | .iter s p,o=>o=.stringIter s p/\base=0
 | .loop τ ps asg body s p,o=>∃ r:Loop,o=.loop r/\r.state=s/\r.pending=p/\r.params=ps/\r.assign=asg/\r.body=body/\VRA ρ τ r.tmps
theorem contentOk.mono {ρ ρ':Ren}(h:ρ.le ρ') {base n:Nat}{b:Blk}{o:Obj}(hc:contentOk ρ base n b o):contentOk ρ' base n b o:=by
 cases b with
 | cells l =>
  obtain ⟨cs,ty,fz,e,hz,hs,hl,hv⟩:=hc
  exact ⟨cs,ty,fz,e,hz,hs,hl,fun i v hi=>let ⟨v',a,b⟩:=hv i v hi; ⟨v',a,b.mono h⟩⟩
 | map es =>
  obtain ⟨en,cl,e,hs,hv⟩:=hc
  exact ⟨en,cl,e,hs,fun i k v hi=>let ⟨x,a,b,c,d⟩:=hv i k v hi; ⟨x,a,b,c,d.mono h⟩⟩
 | pmap q es =>
  obtain ⟨en,cl,e,hv⟩:=hc
  exact ⟨en,cl,e,fun k v hi=>let ⟨j,u,a,b⟩:=hv k v hi; ⟨j,u,a,b.mono h⟩⟩
 | iter s p=>exact hc
 | loop τ ps asg body s p =>
  obtain ⟨r,e,h1,h2,h3,h4,h5,h6⟩:=hc;exact ⟨r,e,h1,h2,h3,h4,h5,h6.mono h⟩
def Img (ρ:Ren) (H:HF) (b:Nat):Prop:=∃ id base n blk,ρ id=some (b,base,n)/\H id=some blk
structure Rel (w0:World) (ρ:Ren) (H:HF) (w:World):Prop where
 below:Below w0.heap.size w0 w
 dyn:∀ id b base n,ρ id=some (b,base,n)->w0.heap.size<=b/\b<w.heap.size
 cont:∀ id b base n blk,ρ id=some (b,base,n)->H id=some blk->∃ o,w.heap[b]?=some o/\contentOk ρ base n blk o
 inj:∀ i j b x y x' y' bi bj,ρ i=some (b,x,y)->ρ j=some (b,x',y')->H i=some bi->H j=some bj->i=j
structure Fr (ρ:Ren) (H:HF) (w:World) (ρ':Ren) (H':HF) (w':World):Prop where
 size:w.heap.size<=w'.heap.size
 fr:∀ b,b<w.heap.size->¬ Img ρ H b->w'.heap[b]?=w.heap[b]?
 img:∀ b,Img ρ' H' b->b<w.heap.size->Img ρ H b
theorem Fr.refl (ρ:Ren) (H:HF) (w:World):Fr ρ H w ρ H w:=⟨Nat.le_refl _,fun _ _ _=>rfl,fun _ h _=>h⟩
theorem Fr.trans {ρ ρ1 ρ2:Ren}{H H1 H2:HF}{w w1 w2:World}(h:Fr ρ H w ρ1 H1 w1) (k:Fr ρ1 H1 w1 ρ2 H2 w2):Fr ρ H w ρ2 H2 w2 :=
 ⟨Nat.le_trans h.size k.size,fun b hb hi=>(k.fr b (Nat.lt_of_lt_of_le hb h.size) (fun x=>hi (h.img b x hb))).trans (h.fr b hb hi),
  fun b hi hb=>h.img b (k.img b hi (Nat.lt_of_lt_of_le hb h.size)) hb⟩
def Ext (ρ ρ':Ren) (lo hi:Nat):Prop:=∀ id,id<lo\/hi<=id->ρ' id=ρ id
def Fresh (ρ:Ren) (lo hi:Nat):Prop:=∀ id,lo<=id->id<hi->ρ id=none
theorem Ext.le {ρ ρ':Ren}{lo hi:Nat}(h:Ext ρ ρ' lo hi) (hf:Fresh ρ lo hi):ρ.le ρ':=by
 intro id x hx
 by_cases hid:id<lo\/hi<=id
 ·rw [h id hid,hx]
 ·rw [hf id (by omega) (by omega)] at hx; cases hx
theorem Ext.refl (ρ:Ren) (lo hi:Nat):Ext ρ ρ lo hi:=fun _ _=>rfl
theorem Ext.trans {ρ ρ1 ρ2:Ren}{a b c:Nat}(h:Ext ρ ρ1 a b) (k:Ext ρ1 ρ2 b c) (hab:a<=b) (hbc:b<=c):Ext ρ ρ2 a c :=
 fun id hid=>(k id (by omega)).trans (h id (by omega))
structure Nxt (w0:World) (ρ:Ren) (σ:Heap) (w:World) (ρ':Ren) (σ':Heap) (w':World):Prop where
 len:σ.length<=σ'.length
 ext:Ext ρ ρ' σ.length σ'.length
 fr:Fr ρ (hp σ) w ρ' (hp σ') w'
 rel:Rel w0 ρ' (hp σ') w'
theorem Nxt.trans {w0:World}{ρ ρ1 ρ2:Ren}{σ σ1 σ2:Heap}{w w1 w2:World}(h:Nxt w0 ρ σ w ρ1 σ1 w1) (k:Nxt w0 ρ1 σ1 w1 ρ2 σ2 w2):Nxt w0 ρ σ w ρ2 σ2 w2 :=
 ⟨Nat.le_trans h.len k.len,h.ext.trans k.ext h.len k.len,h.fr.trans k.fr,k.rel⟩
theorem Nxt.refl {w0:World}{ρ:Ren}{σ:Heap}{w:World}(h:Rel w0 ρ (hp σ) w):Nxt w0 ρ σ w ρ σ w:=⟨Nat.le_refl _,.refl _ _ _,.refl _ _ _,h⟩
theorem Rel.drew {w0:World}{ρ:Ren}{H:HF}{w:World}(h:Rel w0 ρ H w) (n:Nat):Rel w0 ρ H { w with drawn:=n } :=
 ⟨⟨h.below.os,h.below.tape,h.below.output,h.below.size,h.below.block⟩,h.dyn,h.cont,h.inj⟩
theorem Nxt.drew {w0:World}{ρ ρ':Ren}{σ σ':Heap}{w w':World}{n:Nat}(h:Nxt w0 ρ σ { w with drawn:=n } ρ' σ' w'):Nxt w0 ρ σ w ρ' σ' w':=⟨h.len,h.ext,⟨h.fr.size,h.fr.fr,h.fr.img⟩,h.rel⟩
def GoodSt (w0:World) (st:Stat):Prop :=
 ∀ b i v,st b i=some v->∃ v',w0.cell? ⟨b,i,none⟩=some v'/\∀ ρ,VR ρ v v'
theorem addrOk.add {ρ:Ren}{a a':Addr}(h:addrOk ρ a a') (k:Nat):addrOk ρ (addA a k) (a'.add k):=by
 obtain ⟨hs,h⟩:=h
 have e:a'.add k=⟨a'.block,a'.off+k,none⟩:=by
  unfold Addr.add;split
  ·rename_i h0; subst h0; cases a'; simp_all
  ·rfl
 rw [e];refine ⟨rfl,?_⟩
 rcases h with ⟨s,h1,h2,h3⟩ | ⟨h1,b,base,n,h2,h3,h4⟩
 ·exact .inl ⟨s,h1,h2,by simp [addA,h3]⟩
 ·exact .inr ⟨h1,b,base,n,h2,h3,by simp [addA,h4]; omega⟩
section
variable {w0:World}{ρ:Ren}{w:World}
def cellA (st:Stat) (σ:Heap) (a:Addr) (i:Nat):Option Value :=
 match a.spot with
 | some _=>st a.block i
 | none=>match σ[a.block]? with
  | some (some (.cells l))=>l[i]?
  | _=>none
theorem readS_at {f:Nat->Option Value}:∀ {n off:Nat}{l:List Value},readS f off n=some l->l.length=n/\∀ j,j<n->l[j]?=f (off+j)
 | 0,off,l,h=>by
  obtain rfl:=Option.some.inj h
  exact ⟨rfl,fun j hj=>by omega⟩
 | n+1,off,l,h=>by
  unfold readS at h;split at h
  ·rename_i v hv;split at h
   ·rename_i r hr;obtain rfl:=Option.some.inj h;obtain ⟨h1,h2⟩:=readS_at hr
    refine ⟨by simp [h1],fun j hj=>?_⟩
    cases j with
    | zero=>simpa using hv.symm
    | succ j =>
     have:=h2 j (by omega)
     rw [List.getElem?_cons_succ,this]
     congr 1
     omega
   ·cases h
  ·cases h
theorem loadN_at {st:Stat}{σ:Heap}{a:Addr}{n:Nat}{l:List Value}(h:loadN st σ a n=some l):l.length=n/\∀ j,j<n->l[j]?=cellA st σ a (a.off+j):=by
 unfold loadN at h;unfold cellA
 cases hs:a.spot with
 | some s =>
  rw [hs] at h;exact readS_at h
 | none =>
  rw [hs] at h;simp only at h ⊢;split at h
  ·rename_i k hk;split at h
   ·rename_i hle;obtain rfl:=Option.some.inj h
    refine ⟨by simp; omega,fun j hj=>?_⟩
    rw [List.getElem?_take,if_pos hj,List.getElem?_drop,hk]
   ·cases h
  ·cases h
theorem cellA_sound {st:Stat}{σ:Heap}{a a':Addr}{i:Nat}{v:Value}(hst:GoodSt w0 st) (hR:Rel w0 ρ (hp σ) w) (ha:addrOk ρ a a') (hv:cellA st σ a (a.off+i)=some v) :
  ∃ v',w.cell? (a'.add i)=some v'/\VR ρ v v':=by
 have hadd:=ha.add i;generalize hx:a'.add i=x at hadd ⊢;obtain ⟨hs,hk⟩:=hadd;unfold cellA at hv
 rcases hk with ⟨s,h1,h2,h3⟩ | ⟨h1,b,base,n,h2,h3,h4⟩
 ·have h1':a.spot=some s:=h1;rw [h1'] at hv;obtain ⟨v',hv',hr⟩:=hst _ _ _ hv
  have hlt:a.block<w0.heap.size:=by
   rcases Nat.lt_or_ge a.block w0.heap.size with h | h
   ·exact h
   ·simp [World.cell?,Array.getElem?_eq_none h] at hv'
  refine ⟨v',?_,hr ρ⟩;have hblk:x.block=a.block:=h2;have hoff:x.off=a.off+i:=h3
  have hxe:x=⟨a.block,a.off+i,none⟩:=by cases x; simp_all
  rw [hxe,<- hv'];exact World.cell?_of_block (w:=w0) (hR.below.block a.block hlt)
 ·have h1':a.spot=none:=h1;rw [h1'] at hv;simp only at hv;split at hv
  ·rename_i l' hl'
   obtain ⟨o,ho,hc⟩:=hR.cont a.block b base n (.cells l') h2 (by simp [hp,hl'])
   obtain ⟨cs,ty,fz,rfl,hfz,hsz,hle,hcs⟩:=hc;obtain ⟨v',hv',hr⟩:=hcs _ v hv;refine ⟨v',?_,hr⟩;have hoff:x.off=base+(a.off+i):=h4;simp only [World.cell?,h3,ho,hs,hoff,hv',Option.isSome_none,Bool.false_eq_true,if_false]
  ·cases hv
theorem loadN_sound {st:Stat}{σ:Heap}{a a':Addr}{n:Nat}{l:List Value}(hst:GoodSt w0 st) (hR:Rel w0 ρ (hp σ) w) (ha:addrOk ρ a a') (h:loadN st σ a n=some l) :
  ∃ l',l'.length=n/\VRL ρ l l'/\∀ j v,l'[j]?=some v->w.cell? (a'.add j)=some v:=by
 obtain ⟨hlen,hat⟩:=loadN_at h
 have ex:∀ j,j<n->∃ v',w.cell? (a'.add j)=some v'/\∃ v,l[j]?=some v/\VR ρ v v':=by
  intro j hj
  have hv:l[j]?=some l[j]:=List.getElem?_eq_getElem (by omega)
  obtain ⟨v',h1,h2⟩:=cellA_sound hst hR ha ((hat j hj).symm.trans hv);exact ⟨v',h1,_,hv,h2⟩
 let f:Nat->Value:=fun j=>(w.cell? (a'.add j)).getD undef
 have hf:∀ j,j<n->w.cell? (a'.add j)=some (f j):=by
  intro j hj;obtain ⟨v',h1,_⟩:=ex j hj;simp [f,h1]
 refine ⟨(List.range n).map f,by simp,⟨by simp; omega,?_⟩,?_⟩
 ·intro i v v' hv hv'
  have hi:i<n:=by
   have:=(List.getElem?_eq_some_iff.1 hv').1
   simpa using this
  have e':v'=f i:=by simpa [hi] using hv'.symm
  obtain ⟨u',h1,u,h2,h3⟩:=ex i hi;have eu:u'=f i:=Option.some.inj (h1.symm.trans (hf i hi));have ev:u=v:=Option.some.inj (h2.symm.trans hv);rw [e',<- eu,<- ev];exact h3
 ·intro j v hv
  have hj:j<n:=by
   have:=(List.getElem?_eq_some_iff.1 hv).1
   simpa using this
  have e:v=f j:=by simpa [hj] using hv.symm
  rw [e];exact hf j hj
theorem run_storeCells_fz (P:Program) (g o:Nat) (t:TypeId) (fz:Nat×Nat):∀ (vs:List Value) (i:Nat) (cur:Array Value) (w:World),w.heap[g]?=some (.cells cur t fz)->freeF fz cur.size->o+i+vs.length<=cur.size->(∀ v∈vs,v.oneCell'=true) ->
  (storeCells ⟨g,o,none⟩ vs i).run P w=.ok () (w.setRow g (cur.toList.take (o+i)++vs++cur.toList.drop (o+i+vs.length)).toArray)
 | [],i,cur,w,hg,_,_,_=>by
  simp only [storeCells,List.append_nil,List.length_nil,Nat.add_zero,List.take_append_drop,Array.toArray_toList];rw [setRow_self w g cur t fz hg];rfl
 | v :: rest,i,cur,w,hg,hfz,hl,h1=>by
  have hi:o+i<cur.size:=by simp at hl; omega
  have hadd:(⟨g,o,none⟩:Addr).add i=⟨g,o+i,none⟩:=by unfold Addr.add; split<;>simp_all
  have hcell:w.cell? ⟨g,o+i,none⟩=some cur[o+i]:=by simp [World.cell?,hg,hi]
  have hfro:w.frozen? ⟨g,o+i,none⟩=false:=by
   have:=hfz (o+i) hi;obtain ⟨lo,hi'⟩:=fz;simp only [World.frozen?,hg,Bool.and_eq_false_iff,decide_eq_false_iff_not];simp only [not_and,Nat.not_lt] at this;omega
  have hst:(store ((⟨g,o,none⟩:Addr).add i) v).run P w=.ok () (w.setRow g (cur.setIfInBounds (o+i) v)):=by
   rw [hadd,run_store P w _ v _ (h1 v (by simp)),hcell]
   simp [hfro,setCell_eq_setRow w g (o+i) cur t fz v hg]
  have ih:=run_storeCells_fz P g o t fz rest (i+1) (cur.setIfInBounds (o+i) v) (w.setRow g (cur.setIfInBounds (o+i) v)) (setRow_heap w g cur _ t _ hg) (by simpa using hfz) (by simp at hl ⊢; omega) (fun x hx=>h1 x (by simp [hx]))
  simp only [storeCells,Sem.run_bind,hst,Result.andThen_ok,ih,setRow_setRow]
  congr 3
  have e:=list_seg_step cur.toList (o+i) v rest (by simp at hl ⊢; omega)
  simpa [Array.toList_setIfInBounds,Nat.add_assoc] using e
theorem storeN_sound {σ σ':Heap}{a a':Addr}{vs vs':List Value}(hR:Rel w0 ρ (hp σ) w) (ha:addrOk ρ a a') (hv:VRL ρ vs vs') (h:storeN σ a vs=some σ') :
  ∃ w',(∀ P:Program,(storeCells a' vs').run P w=.ok () w')/\Nxt w0 ρ σ w ρ σ' w':=by
 unfold storeN at h;split at h
 ·cases h
 ·rename_i hsp;split at h
  ·rename_i l hl;split at h
   ·rename_i hle;obtain rfl:=Option.some.inj h;simp only [Bool.and_eq_true,decide_eq_true_eq] at hle;obtain ⟨hle,hone⟩:=hle;obtain ⟨hs',hk⟩:=ha
    rcases hk with ⟨s,h1,_,_⟩ | ⟨_,b,base,n,h2,h3,h4⟩
    ·rw [hsp] at h1; cases h1
    have hH:hp σ a.block=some (.cells l):=by simp [hp,hl]
    obtain ⟨o,ho,hc⟩:=hR.cont a.block b base n (.cells l) h2 hH;obtain ⟨cs,ty,fz,rfl,hfz,hsz,hbl,hcs⟩:=hc
    have hone':∀ v∈vs',v.oneCell'=true:=by
     intro v' hv';obtain ⟨i,hi⟩:=List.getElem?_of_mem hv'
     have hi':i<vs.length:=by rw [hv.1]; exact (List.getElem?_eq_some_iff.1 hi).1
     exact (hv.2 i vs[i] v' (List.getElem?_eq_getElem hi') hi).oneCell (List.all_eq_true.1 hone _ (List.getElem_mem hi'))
    have ea:a'=⟨b,base+a.off,none⟩:=by cases a'; simp_all
    have hrun:∀ P:Program,(storeCells a' vs').run P w=.ok () (w.setRow b (cs.toList.take (base+a.off)++vs'++cs.toList.drop (base+a.off+vs'.length)).toArray):=by
     intro P;rw [ea]
     have:=run_storeCells_fz P b (base+a.off) ty fz vs' 0 cs w ho (by rw [hsz]; exact hfz) (by rw [<- hv.1]; omega) hone'
     simpa using this
    refine ⟨_,hrun,by simp,.refl _ _ _,⟨by simp,?_,?_⟩,⟨?_,?_,?_,?_⟩⟩
    ·intro k hk hi
     exact setRow_other _ _ _ _ (fun e=>hi ⟨a.block,base,n,_,by rw [h2,e],hH⟩)
    ·intro k hi hk;obtain ⟨id,x,y,blk,e1,e2⟩:=hi
     by_cases hid:id=a.block
     ·subst hid;rw [h2] at e1;simp only [Option.some.injEq,Prod.mk.injEq] at e1
      exact ⟨a.block,base,n,_,by rw [h2,e1.1],hH⟩
     ·refine ⟨id,x,y,blk,e1,?_⟩;rw [<- e2];simp [hp,Ne.symm hid]
    ·exact hR.below.trans ⟨rfl,rfl,rfl,by simp,fun k hk=>setRow_other _ _ _ _ (by have:=(hR.dyn _ _ _ _ h2).1; omega)⟩
    ·intro id b' x y e;have:=hR.dyn id b' x y e
     simpa using this
    ·intro id b' x y blk e1 e2
     by_cases hid:id=a.block
     ·subst hid;rw [h2] at e1;simp only [Option.some.injEq,Prod.mk.injEq] at e1;obtain ⟨rfl,rfl,rfl⟩:=e1;have hlt:a.block<σ.length:=(List.getElem?_eq_some_iff.1 hl).1
      have eb:blk=.cells (l.take a.off++vs++l.drop (a.off+vs.length)):=by
       simp only [hp,List.getElem?_set_self hlt,Option.join_some] at e2;exact (Option.some.inj e2).symm
      subst eb;have hlv:=hv.1;refine ⟨_,setRow_heap _ _ _ _ _ _ ho,_,ty,fz,rfl,hfz,?_,?_,?_⟩
      ·simp only [List.size_toArray,List.length_append,List.length_take,List.length_drop,Array.length_toList,hsz]; omega
      ·simp only [List.length_append,List.length_take,List.length_drop]; omega
      ·intro i v hi
       have hlen:(cs.toList.take (base+a.off)).length=base+a.off:=by simp; omega
       have hlen2:(l.take a.off).length=a.off:=by simp; omega
       simp only [List.getElem?_toArray]
       by_cases c1:i<a.off
       ·rw [List.append_assoc,List.getElem?_append_left (by omega),List.getElem?_take,if_pos c1] at hi
        obtain ⟨v',hv',hr⟩:=hcs i v hi;refine ⟨v',?_,hr⟩
        rw [List.append_assoc,List.getElem?_append_left (by omega),List.getElem?_take,if_pos (by omega)]
        simpa using hv'
       ·by_cases c2:i<a.off+vs.length
        ·rw [List.append_assoc,List.getElem?_append_right (by omega),hlen2,List.getElem?_append_left (by omega)] at hi
         obtain ⟨v',hv',hr⟩:=hv.get hi;refine ⟨v',?_,hr⟩
         rw [List.append_assoc,List.getElem?_append_right (by omega),hlen,List.getElem?_append_left (by omega),<- hv']
         congr 1
         omega
        ·rw [List.append_assoc,List.getElem?_append_right (by omega),hlen2,List.getElem?_append_right (by omega),List.getElem?_drop] at hi
         obtain ⟨v',hv',hr⟩:=hcs _ v hi;refine ⟨v',?_,hr⟩
         rw [List.append_assoc,List.getElem?_append_right (by omega),hlen,List.getElem?_append_right (by omega),List.getElem?_drop]
         simp only [Array.getElem?_toList];rw [<- hv']
         congr 1
         omega
     ·have e2':hp σ id=some blk:=by rw [<- e2]; simp [hp,Ne.symm hid]
      obtain ⟨o,ho',hc'⟩:=hR.cont id b' x y blk e1 e2';refine ⟨o,?_,hc'⟩
      rw [setRow_other _ _ _ _ (fun e=>hid (hR.inj id a.block b x y base n blk _ (by rw [e1,e]) h2 e2' hH))]
      exact ho'
    ·intro i j b' x y x' y' bi bj e1 e2 e3 e4
     have alive:∀ id blk,hp (σ.set a.block (some (.cells (l.take a.off++vs++l.drop (a.off+vs.length))))) id=some blk->∃ blk',hp σ id=some blk':=by
      intro id blk e
      by_cases hid:id=a.block
      ·subst hid; exact ⟨_,hH⟩
      ·refine ⟨blk,?_⟩;rw [<- e];simp [hp,Ne.symm hid]
     obtain ⟨bi',e3'⟩:=alive _ _ e3;obtain ⟨bj',e4'⟩:=alive _ _ e4;exact hR.inj i j b' x y x' y' bi' bj' e1 e2 e3' e4'
   ·cases h
  ·cases h
theorem hp_old (σ:Heap) (b:Option Blk) {id:Nat}(h:id≠σ.length):hp (σ++[b]) id=hp σ id:=by
 simp only [hp]
 rcases Nat.lt_or_ge id σ.length with hlt | hge
 ·rw [List.getElem?_append_left hlt]
 ·rw [List.getElem?_eq_none (by simp; omega),List.getElem?_eq_none hge]
theorem hp_new (σ:Heap) (b:Option Blk):hp (σ++[b]) σ.length=b:=by simp [hp]
def Ren.put (ρ:Ren) (id:Nat) (x:Nat×Nat×Nat):Ren:=fun k=>if k=id then some x else ρ k
theorem Ren.le_put {ρ:Ren}{id:Nat}{x:Nat×Nat×Nat}(h:ρ id=none):ρ.le (ρ.put id x):=by
 intro k y hk;unfold Ren.put;split
 ·rename_i e; subst e; rw [h] at hk; cases hk
 ·exact hk
theorem new_sound {σ:Heap}{B:Blk}{N:Nat}{o:Obj}(hR:Rel w0 ρ (hp σ) w) (hf:ρ σ.length=none) (hB:contentOk (ρ.put σ.length (w.heap.size,0,N)) 0 N B o) :
  Nxt w0 ρ σ w (ρ.put σ.length (w.heap.size,0,N)) (σ++[some B]) { w with heap:=w.heap.push o }:=by
 have hle:ρ.le (ρ.put σ.length (w.heap.size,0,N)):=Ren.le_put hf
 have hput:(ρ.put σ.length (w.heap.size,0,N)) σ.length=some (w.heap.size,0,N):=by simp [Ren.put]
 have hold:∀ id,id≠σ.length->(ρ.put σ.length (w.heap.size,0,N)) id=ρ id:=fun id h=>by simp [Ren.put,h]
 have hpush:∀ k,k<w.heap.size->(w.heap.push o)[k]?=w.heap[k]?:=fun k hk=>by rw [Array.getElem?_push,if_neg (by omega)]
 have hnew:(w.heap.push o)[w.heap.size]?=some o:=by simp
 refine ⟨by simp,?_,⟨by simp,fun b hb _=>hpush b hb,?_⟩,⟨?_,?_,?_,?_⟩⟩
 ·intro id hid
  exact hold id (by simp at hid; omega)
 ·intro b hi hb;obtain ⟨id,x,y,blk,e1,e2⟩:=hi
  by_cases hid:id=σ.length
  ·subst hid;rw [hput] at e1;simp only [Option.some.injEq,Prod.mk.injEq] at e1;omega
  ·rw [hold id hid] at e1;rw [hp_old σ _ hid] at e2;exact ⟨id,x,y,blk,e1,e2⟩
 ·exact hR.below.trans ⟨rfl,rfl,rfl,by simp,fun k hk=>hpush k (by have:=hR.below.size; omega)⟩
 ·intro id b x y e
  by_cases hid:id=σ.length
  ·subst hid;rw [hput] at e;simp only [Option.some.injEq,Prod.mk.injEq] at e;have:=hR.below.size;simp;omega
  ·rw [hold id hid] at e;have:=hR.dyn id b x y e;simp;omega
 ·intro id b x y blk e1 e2
  by_cases hid:id=σ.length
  ·subst hid;rw [hput] at e1;rw [hp_new] at e2;simp only [Option.some.injEq,Prod.mk.injEq] at e1 e2;obtain ⟨rfl,rfl,rfl⟩:=e1;subst e2;exact ⟨_,hnew,hB⟩
  ·rw [hold id hid] at e1;rw [hp_old σ _ hid] at e2;obtain ⟨o,ho,hc⟩:=hR.cont id b x y blk e1 e2;exact ⟨o,(hpush b (hR.dyn id b x y e1).2).trans ho,hc.mono hle⟩
 ·intro i j b x y x' y' bi bj e1 e2 e3 e4
  by_cases hi:i=σ.length
  ·by_cases hj:j=σ.length
   ·rw [hi,hj]
   ·exfalso
    subst hi;rw [hput] at e1;rw [hold j hj] at e2;have:=hR.dyn j b x' y' e2;simp only [Option.some.injEq,Prod.mk.injEq] at e1;omega
  ·by_cases hj:j=σ.length
   ·exfalso
    subst hj;rw [hput] at e2;rw [hold i hi] at e1;have:=hR.dyn i b x y e1;simp only [Option.some.injEq,Prod.mk.injEq] at e2;omega
   ·rw [hold i hi] at e1;rw [hold j hj] at e2;rw [hp_old σ _ hi] at e3;rw [hp_old σ _ hj] at e4;exact hR.inj i j b x y x' y' bi bj e1 e2 e3 e4
theorem newF_sound {σ:Heap}{l:List Value}{cs:Array Value}{ty:TypeId}{fz:Nat×Nat}(hR:Rel w0 ρ (hp σ) w) (hf:ρ σ.length=none) (hz:freeF fz cs.size)
  (hl:l.length<=cs.size) (hv:∀ (i:Nat) v,l[i]?=some v->∃ v',cs[i]?=some v'/\VR ρ v v') :
  Nxt w0 ρ σ w (ρ.put σ.length (w.heap.size,0,cs.size)) (σ++[some (.cells l)]) { w with heap:=w.heap.push (.cells cs ty fz) } :=
 new_sound hR hf ⟨cs,ty,fz,rfl,hz,rfl,by simpa using hl,fun i v hi=>let ⟨v',a,b⟩:=hv i v hi; ⟨v',by simpa using a,b.mono (Ren.le_put hf)⟩⟩
theorem newB_sound {σ:Heap}{l:List Value}{cs:Array Value}{ty:TypeId}(hR:Rel w0 ρ (hp σ) w) (hf:ρ σ.length=none)
  (hl:l.length<=cs.size) (hv:∀ (i:Nat) v,l[i]?=some v->∃ v',cs[i]?=some v'/\VR ρ v v') :
  Nxt w0 ρ σ w (ρ.put σ.length (w.heap.size,0,cs.size)) (σ++[some (.cells l)]) { w with heap:=w.heap.push (.cells cs ty) }:=newF_sound hR hf (freeF_zero _) hl hv
theorem upd_sound {σ:Heap}{id b base N:Nat}{B B':Blk}{o:Obj}(hR:Rel w0 ρ (hp σ) w) (hH:σ[id]?=some (some B)) (h2:ρ id=some (b,base,N)) (hB:contentOk ρ base N B' o) :
  Nxt w0 ρ σ w ρ (σ.set id (some B')) { w with heap:=w.heap.setIfInBounds b o }:=by
 have hlt:id<σ.length:=(List.getElem?_eq_some_iff.1 hH).1
 have hH':hp σ id=some B:=by simp [hp,hH]
 have hb:=hR.dyn id b base N h2
 have hother:∀ k,k≠b->(w.heap.setIfInBounds b o)[k]?=w.heap[k]?:=fun k hk=>by rw [Array.getElem?_setIfInBounds,if_neg (Ne.symm hk)]
 have hself:(w.heap.setIfInBounds b o)[b]?=some o:=by rw [Array.getElem?_setIfInBounds,if_pos rfl,if_pos hb.2]
 have hpo:∀ k,k≠id->hp (σ.set id (some B')) k=hp σ k:=fun k hk=>by simp [hp,Ne.symm hk]
 have hps:hp (σ.set id (some B')) id=some B':=by simp [hp,List.getElem?_set_self hlt]
 have alive:∀ k blk,hp (σ.set id (some B')) k=some blk->∃ blk',hp σ k=some blk':=by
  intro k blk e
  by_cases hk:k=id
  ·subst hk; exact ⟨_,hH'⟩
  ·exact ⟨blk,by rw [<- hpo k hk]; exact e⟩
 refine ⟨by simp,.refl _ _ _,⟨by simp,?_,?_⟩,⟨?_,?_,?_,?_⟩⟩
 ·intro k _ hi
  exact hother k fun e=>hi ⟨id,base,N,_,by rw [h2,e],hH'⟩
 ·intro k hi _;obtain ⟨j,x,y,blk,e1,e2⟩:=hi;obtain ⟨blk',e3⟩:=alive _ _ e2;exact ⟨j,x,y,blk',e1,e3⟩
 ·exact hR.below.trans ⟨rfl,rfl,rfl,by simp,fun k hk=>hother k (by omega)⟩
 ·intro j b' x y e
  simpa using hR.dyn j b' x y e
 ·intro j b' x y blk e1 e2
  by_cases hj:j=id
  ·subst hj;rw [h2] at e1;simp only [Option.some.injEq,Prod.mk.injEq] at e1;obtain ⟨rfl,rfl,rfl⟩:=e1;rw [hps] at e2;obtain rfl:=Option.some.inj e2;exact ⟨_,hself,hB⟩
  ·rw [hpo j hj] at e2;obtain ⟨o',ho',hc'⟩:=hR.cont j b' x y blk e1 e2
   exact ⟨o',(hother b' fun e=>hj (hR.inj j id b x y base N blk _ (by rw [e1,e]) h2 e2 hH')).trans ho',hc'⟩
 ·intro i j b' x y x' y' bi bj e1 e2 e3 e4;obtain ⟨bi',e3'⟩:=alive _ _ e3;obtain ⟨bj',e4'⟩:=alive _ _ e4;exact hR.inj i j b' x y x' y' bi' bj' e1 e2 e3' e4'
end
end Go.AE
