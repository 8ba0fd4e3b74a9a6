/-
 'narratorlaw13.TerminalText': for every size and every string of at most 1048576 bytes the law answers true and leaves the input as it was.
 Conditions: the row's own (what is read is of bulk at most 1048576),and that the listed tables hold what it lists.
-/
import Derived.Test.YtigmkgampfbflaaGreatDoorJAwk
import Derived.Lib.Repeat
import Derived.Shelf.LaysM
import Derived.Shelf.Unicode.ValidAny
import Derived.Ground.SlgnProg
import Derived.Test.YtigmkgampfbflaaGreatDoorProg
import Derived.Test.YtigmkgampfbflaaGreatDoorDeLst
import Derived.Test.YtigmkgampfbflaaGreatDoorAeMpg
import Derived.Test.YtigmkgampfbflaaGreatDoorCards
import Derived.Test.YtigmkgampfbflaaGreatDoorTie
import Derived.Lay
import Derived.Lib.LaidTab
import Derived.Lib.SmallJoins
import Derived.WalkKit
import Derived.MakeChecks
import Derived.Deep.DeepHandedRow
import Derived.ChangeMaps5
import Derived.Lib.LaidU8T
namespace Go.Proofs.YtigmkgampfbflaaGreatDoor
open Go Go.AE Go.DE Go.RowKit
theorem fold_pus:∀ (l:List Int) (r:ByteArray),(l.foldl (fun r n=>r.push (UInt8.ofNat n.toNat)) r).data.toList=r.data.toList++l.map fun n=>UInt8.ofNat n.toNat
 | [],r=>by simp
 | x :: l,r=>by
  rw [List.foldl_cons,fold_pus l]
  have:(r.push (UInt8.ofNat x.toNat)).data.toList=r.data.toList++[UInt8.ofNat x.toNat]:=by
   show (r.data.push _).toList=_
   simp
  rw [this]
  simp
theorem bytes_list (n:Nat) (f:Nat→Int):(bytesS n f).data.toList=(List.range n).map fun i=>UInt8.ofNat (f i).toNat:=by
 unfold bytesS
 rw [fold_pus]
 rw [List.map_map]
 rfl
theorem ba_size (s:ByteArray):s.size=s.data.toList.length:=by
 show s.data.size=_
 rw [Array.length_toList]
theorem bytes_size (n:Nat) (f:Nat→Int):(bytesS n f).size=n:=by rw [ba_size,bytes_list]; simp
theorem bytes_at {n:Nat}{f:Nat→Int}{j:Nat}(hj:j<n) (h0:0≤f j) (h1:f j<256):byteAt (bytesS n f) j=f j:=by
 unfold byteAt
 rw [bytes_list,List.getD_eq_getElem?_getD,List.getElem?_map,List.getElem?_range hj]
 show (((UInt8.ofNat (f j).toNat).toNat:Nat):Int)=f j
 rw [show (UInt8.ofNat (f j).toNat).toNat=(f j).toNat % 256 from rfl]
 omega
theorem pn_size (s:ByteArray):(pnF s).size=(pnL s).length:=bytes_size _ _
theorem pn_prn (s:ByteArray):prn (pnF s):=fun j hj=>by
 have hj:j<(pnL s).length:=by rw [← pn_size]; exact hj
 have e:lw (pnL s) j=(pnL s)[j]:=by unfold lw; rw [List.getD_eq_getElem?_getD,List.getElem?_eq_getElem hj]; rfl
 obtain ⟨h1,h2⟩:=pnL_all s _ (List.getElem_mem hj)
 unfold pnF
 rw [bytes_at hj (by rw [e]; omega) (by rw [e]; omega),e]
 exact ⟨h1,h2⟩
def bt (t:ByteArray) (q:Nat):UInt8:=if q<t.size then t.data.toList.getD q 0 else 32
theorem join_row {r:Row}{g:Nat→UInt8}:∀ (m i:Nat),(∀ k,i≤k→k<i+m→(r.tx k).data.toList=[g k])→joinU (txL r m i)=(List.range' i m).map g
 | 0,_,_=>rfl
 | m+1,i,h=>by
  rw [txL,joinU,h i (Nat.le_refl _) (by omega),join_row m (i+1) fun k h1 h2=>h k (by omega) (by omega),List.range'_succ]
  rfl
theorem range_map {g:Nat→UInt8}(s i m:Nat):(List.range' i m).map (fun k=>g (s+k))=(List.range' (s+i) m).map g:=by
 induction m generalizing i with
 | zero=>rfl
 | succ m ih =>
  rw [List.range'_succ,List.range'_succ,List.map_cons,List.map_cons,ih]
  rfl
theorem join_rows {F:Row→ByteArray}{R:Nat→Row}{g:Nat→UInt8}{w:Nat}:∀ (m i:Nat) (a:ByteArray),(∀ j,i≤j→j<i+m→(F (R j)).data.toList=(List.range' (j*w) w).map g)→(joinR F R m i a).data.toList=a.data.toList++(List.range' (i*w) (m*w)).map g
 | 0,i,a,_=>by
  rw [Nat.zero_mul]
  simp [joinR]
 | m+1,i,a,h=>by
  rw [joinR,join_rows m (i+1) _ fun j h1 h2=>h j (by omega) (by omega),ByteArray.data_append,Array.toList_append,h i (Nat.le_refl _) (by omega),List.append_assoc,← List.map_append]
  have:List.range' (i*w) w++List.range' ((i+1)*w) (m*w)=List.range' (i*w) ((m+1)*w):=by
   have e:=@List.range'_append (i*w) w (m*w) 1
   rw [Nat.one_mul] at e
   rw [Nat.add_mul i 1 w,Nat.one_mul,e,Nat.add_mul m 1 w,Nat.one_mul,Nat.add_comm w]
  rw [this]
theorem rep_list:∀ c,Lib.repeatL [32] c=List.replicate c 32
 | 0=>rfl
 | c+1=>by
  rw [Lib.repeatL,rep_list c,List.replicate_succ]
  rfl
theorem bt_list (t:ByteArray) {m:Nat}(h:t.size≤m):(List.range' 0 m).map (bt t)=t.data.toList++List.replicate (m-t.size) 32:=by
 have hs:=ba_size t
 apply List.ext_getElem
 ·simp only [List.length_map,List.length_range',List.length_append,List.length_replicate]
  omega
 ·intro i h1 h2
  simp only [List.getElem_map,List.getElem_range',Nat.one_mul,Nat.zero_add]
  unfold bt
  by_cases hi:i<t.size
  ·rw [if_pos hi,List.getElem_append_left (by omega),List.getD_eq_getElem?_getD,List.getElem?_eq_getElem (by omega)]
   rfl
  ·rw [if_neg hi,List.getElem_append_right (by omega)]
   simp
/-- A new terminal. -/
def newY (w h:Int):WS:=⟨w.toNat,h.toNat,⟨fun _=>blkRow w.toNat,0,0,false⟩,fun _=>blkRow w.toNat,tab8⟩
theorem sp_one:oneC ⟨⟨[32]⟩⟩:=by
 have h:=enc_one (b:=32) ⟨by decide,by decide⟩
 rwa [show Utf8.encode 32=⟨⟨[32]⟩⟩ by kernel_rfl] at h
theorem blk_good (w:Nat):gRow w (blkRow w):=⟨rfl,fun _ _=>⟨rfl,sp_one⟩⟩
theorem newY_ok {w h:Nat}(w1:1≤w) (w2:w≤30) (h1:1≤h) (h2:h≤30):(newY w h).ok:=⟨⟨w1,w2,h1,h2,fun _ _=>blk_good w,h1,w1,fun e=>nomatch e⟩,fun _ _=>blk_good w⟩
theorem text_fits {w h:Nat}(w1:1≤w) (t:ByteArray) (ht:t.size≤w*h):∀ m,m<t.size→fits h (runT w (fun i=>byteAt t i) m (newY w h).x):=fun m hm =>
 pos_fits (run_txt (z:=fun i=>byteAt t i) w1 (x:=(newY w h).x) ⟨by show 0*w+0=0; omega,w1⟩ (fun _ _ _=>rfl) (fun _=>rfl) m).1 (by omega)
theorem text_rows {w h:Nat}(w1:1≤w) {t:ByteArray}(hp:prn t) (ht:t.size≤w*h) :
  (joinR txF ((newY w h).wr t).x.R h 0 ⟨#[]⟩).data.toList=(t++⟨(Lib.repeatL [32] (w*h-t.size)).toArray⟩).data.toList:=by
 obtain ⟨-,h2,h3⟩:=run_txt (z:=fun i=>byteAt t i) w1 (x:=(newY w h).x) ⟨by show 0*w+0=0; omega,w1⟩ (fun _ _ _=>rfl) (fun _=>rfl) t.size
 rw [join_rows (g:=bt t) (w:=w) h 0 _ fun j _ _=>?_]
 ·rw [Nat.zero_mul,ByteArray.data_append,Array.toList_append,rep_list]
  show []++_=_++(List.replicate _ (32:UInt8)).toArray.toList
  rw [List.nil_append,bt_list t (by rw [Nat.mul_comm]; exact ht),Nat.mul_comm h w]
 ·show joinU (txL (((newY w h).wr t).x.R j) (((newY w h).wr t).x.R j).n 0)=_
  have hn:(((newY w h).wr t).x.R j).n=w:=h3 j
  rw [hn,join_row (g:=fun k=>bt t (j*w+k)) w 0 fun k _ hk=>?_,range_map,Nat.add_zero]
  have e:(((newY w h).wr t).x.R j).tx k=(txtR w (fun i=>byteAt t i) t.size j).tx k:=h2 j k (by omega)
  rw [e]
  show (if j*w+k<t.size then Utf8.encode (byteAt t (j*w+k)) else ⟨#[32]⟩:ByteArray).data.toList=[if j*w+k<t.size then t.data.toList.getD (j*w+k) 0 else 32]
  by_cases hq:j*w+k<t.size
  ·rw [if_pos hq,if_pos hq,enc_list (hp _ hq)]
   unfold byteAt
   rw [Int.toNat_natCast]
   simp
  ·rw [if_neg hq,if_neg hq]
end Go.Proofs.YtigmkgampfbflaaGreatDoor
namespace Go.Proofs.YtigmkgampfbflaaGreatDoor
open Go Go.AE Go.DE Go.RowKit
theorem con_leZ {z:Bool}{P:Program}{st:AE.Stat}{f:FuncId}{F G:ConF}(h:ConOkZ z P st f G) (hl:∀ args k,F args k=some ()→G args k=some ()):ConOkZ z P st f F:=fun args k hk=>h args k (hl args k hk)
def nwQ (w h:Int):Prop:=1≤w∧w≤30∧1≤h∧h≤30
theorem nwC_ok {st:AE.Stat}(hx:Hx st) (hk:∀ a σ,st.ext 157 a σ=RL.app σ (blkX a σ.length)):ConOkZ true Tryz.prog st 18 (nwC nwQ newY):=con_leZ (ntC_ok hx hk) fun args k hk=>by
 unfold nwC at hk
 split at hk<;>first | (cases hk; done) | skip
 rename_i w h
 obtain ⟨hb,hk0⟩:=bif_none hk
 obtain ⟨w1,w2,h1,h2⟩:=holds_eq.1 hb
 obtain ⟨n,rfl⟩:∃ n:Nat,w=n:=⟨w.toNat,by omega⟩
 obtain ⟨m,rfl⟩:∃ n:Nat,h=n:=⟨h.toNat,by omega⟩
 refine dT w2 (cF ?_ hk0)
 unfold szF2
 rw [decide_eq_false (by omega),decide_eq_false (by omega),decide_eq_false (by omega),decide_eq_false (by omega)]
 rfl
def wr1Q (y:WS) (l:List DV) (s:ByteArray):Prop:=l=y.cells∧wrQ l s
theorem wr1C_ok {st:AE.Stat}(hx:Hx st) (hv:VdOk st) (y:WS):ConOkZ true Tryz.prog st 14 (wr1C (wr1Q y) y.wr):=con_leZ (wrC_ok hx hv) fun args k hk=>by
 unfold wr1C at hk
 split at hk<;>first | (cases hk; done) | skip
 rename_i l s
 obtain ⟨hb,hk0⟩:=bif_none hk
 obtain ⟨rfl,hq⟩:=holds_eq.1 hb
 exact hT hq hk0
def rpV:List Value→Option Value
 | [.string s,.int .i64 c]=>if 0≤c∧c≤1000∧s.size≤1000 then some (.string ⟨(Lib.repeatL s.data.toList c.toNat).toArray⟩) else none
 | _=>none
def rpF (s:ByteArray) (c:Int):ByteArray:=⟨(Lib.repeatL s.data.toList c.toNat).toArray⟩
def rpQ (s:ByteArray) (c:Int):Prop:=0≤c∧c≤1000∧s.size≤1000
theorem rpC_ok {st:AE.Stat}(hr:∀ a σ,st.ext 25 a σ=RL.app σ (toL (keepX rpV a))):ConOk Tryz.prog st 25 (rpC rpQ rpF):=by
 refine con_ext Tryz.func25 (by kernel_rfl) (by kernel_rfl) fun args k hk=>?_
 unfold rpC at hk
 split at hk<;>first | (cases hk; done) | skip
 rename_i s c
 obtain ⟨hb,hk0⟩:=bif_none hk
 have hq:0≤c∧c≤1000∧s.size≤1000:=holds_eq.1 hb
 refine ⟨.string (rpF s c),rfl,hk0,fun C σ vs _ ha=>?_⟩
 obtain ⟨v,ys,rfl,hv,hn⟩:=ha.cons_inv
 obtain ⟨u,zs,rfl,hu,hn⟩:=hn.cons_inv
 obtain rfl:=hn.nil_inv
 have dv:∀ {x y:Value},DR C noMu (.v x) y→y=x:=fun h=>by
  cases h
  rfl
 obtain rfl:=dv hv
 obtain rfl:=dv hu
 have e:rpV [.string s,.int .i64 c]=some (.string (rpF s c)):=if_pos hq
 rw [hr]
 unfold keepX
 rw [e]
 rfl
theorem backB_kb:KB backB:=⟨trivial,fun i f hi hf=>by
 show Clo (bif Nat.beq f 36 then nilS else .any)
 cases Nat.beq f 36 with
 | true=>exact .v _
 | false=>exact .any⟩
theorem jx_ls {st:AE.Stat}(ht:∀ a σ,st.ext 24 a σ=RL.app σ (toL (tnX st (hp σ) a))):LoopSR true Tryz.prog st gl0 (.loop (loopAt Tryz.f7 2042)) (jxI txF txQ).g:=by
 refine (jxI txF txQ).ok (E:=envZ [(24,txC txQ txF)] noLp 0) (p:=500) (tblD_env (l:=[(24,txC txQ txF)]) fun x h=>?_) (glOk st).1 (fun _ _ _ h=>nomatch h) (fun x k h=>h) fun x hx2=>?_
 ·simp only [List.mem_cons,List.not_mem_nil,or_false] at h
  subst h
  exact (txC_ok ht).z
 obtain ⟨R,n,i,a,tx,w,h⟩:=x
 obtain ⟨hi,hn,hq,ha⟩:i≤n∧n≤9000000∧(∀ j,j<n→txQ (R j).cell (R j).n∧(txF (R j)).size≤1000000)∧a.size≤i*1000000:=hx2
 refine (jx_loop R n i a tx w h txF txQ _).trans ?_
 simp only [Int.toNat_natCast,Nat.add_zero]
 refine dS (fun hlt=>?_) fun hge=>?_
 ·have hlt:i<n:=by omega
  obtain ⟨q1,q2⟩:=hq i hlt
  have hW:IntKind.i64.wrap ((i:Int)+1)=((i+1:Nat):Int):=by rw [W_in (by omega) (by omega)]; omega
  rw [hW]
  have hr:joinR txF R (n-(i+1)) (i+1) (a++txF (R i))=joinR txF R (n-i) i a:=by
   have:n-i=(n-(i+1))+1:=by omega
   rw [this,joinR]
  have hs:(a++txF (R i)).size=a.size+(txF (R i)).size:=by simp
  refine dT (by omega) (dT hlt (hT q1 (dT (by show a.size+(txF (R i)).size≤_; omega) (LInv.ask_of ⟨rfl,⟨R,n,i+1,a++txF (R i),tx,w,h⟩,⟨rfl,by simp only [jxI,hr],rfl,⟨hlt,hn,hq,?_⟩⟩,?_,[],?_⟩))))
  ·show (a++txF (R i)).size≤(i+1)*1000000
   rw [hs]
   omega
  ·simp only [jxI]; omega
  ·exact .of (im:=[some 0]) (.cons (.v _) (.cons (.v _) (.cons (.v _) (.cons (.po rfl) (.cons (.v _) (.cons (.sl _ _ _ _) (.cons (.v _) (.cons (.v _) .nil)))))))) rfl ⟨⟨0,_,rfl,rfl,backB_kb.sub⟩,trivial⟩ rfl (by decide)
 ·obtain rfl:n=i:=by omega
  have hr:joinR txF R (n-n) n a=a:=by rw [Nat.sub_self,joinR]
  refine LInv.ask_of ⟨rfl,rfl,[],?_⟩
  simp only [jxI,hr]
  exact .of (im:=[some 0]) (.cons (.v _) (.cons (.v _) (.cons (.v _) (.cons (.po rfl) (.cons (.v _) .nil))))) rfl ⟨⟨0,_,rfl,rfl,backB_kb.sub⟩,trivial⟩ rfl (by decide)
theorem aw0C_ok {st:AE.Stat}(ha:∀ C σ vs,St st C noMu σ []→DRL C noMu [] vs→st.ext 13 vs σ=some (.bool true,σ)):ConOk Tryz.prog st 13 aw0C:=by
 refine con_ext Tryz.func13 (by kernel_rfl) (by kernel_rfl) fun args k hk=>?_
 unfold aw0C at hk
 split at hk<;>first | (cases hk; done) | skip
 exact ⟨.bool true,rfl,hk,ha⟩
/-- The law's function: sizes of a byte each, a string. -/
def xlQ (a b:Int) (s:ByteArray):Prop:=0≤a∧a<256∧0≤b∧b<256∧s.size≤9000000
noncomputable def la7C:ConF:=fun args k=>match args with
 | [.v (.int .u8 a),.v (.int .u8 b),.v (.string s)]=>bif holds (xlQ a b s) then k (fun _=>(bv true,[])) else none
 | _=>none
theorem txF_size {w:Nat}{r:Row}(h:gRow w r) (hb:∀ k,k<w→(r.tx k).size≤1000) (hw:w≤30):(txF r).size≤1000000:=by
 have e:∀ (m i:Nat),i+m≤w→(joinU (txL r m i)).length≤m*1000:=fun m=>by
  induction m with
  | zero=>intro i _; simp [txL,joinU]
  | succ m ih =>
   intro i hi
   rw [txL,joinU,List.length_append]
   have h1:=ih (i+1) (by omega)
   have h2:=hb i (by omega)
   rw [ba_size] at h2
   omega
 have:=e r.n 0 (by rw [h.1]; omega)
 rw [h.1] at this
 rw [ba_size]
 show (joinU (txL r r.n 0)).length≤_
 rw [h.1]
 omega
theorem la7C_ok {st:AE.Stat}(hx:Hx st) (hv:VdOk st) (hk:∀ a σ,st.ext 157 a σ=RL.app σ (blkX a σ.length)) (ht:∀ a σ,st.ext 24 a σ=RL.app σ (toL (tnX st (hp σ) a))) (hr:∀ a σ,st.ext 25 a σ=RL.app σ (toL (keepX rpV a)))
  (ha:ConOk Tryz.prog st 13 aw0C):ConOkZ true Tryz.prog st 7 la7C:=fun args k hk2=>by
 unfold la7C at hk2
 split at hk2<;>first | (cases hk2; done) | skip
 rename_i a b s
 obtain ⟨hb,hk3⟩:=bif_none hk2
 clear hk2
 obtain ⟨a0,a1,b0,b1,hs⟩:=holds_eq.1 hb
 obtain ⟨w,hw⟩:∃ w:Nat,(w:Int)=Int.tmod a 20+1:=⟨(Int.tmod a 20+1).toNat,by have:=Int.tmod_nonneg 20 a0; omega⟩
 obtain ⟨h,hh⟩:∃ h:Nat,(h:Int)=Int.tmod b 8+1:=⟨(Int.tmod b 8+1).toNat,by have:=Int.tmod_nonneg 8 b0; omega⟩
 have w1:1≤w:=by have:=Int.tmod_nonneg 20 a0; omega
 have w2:w≤20:=by have:=Int.tmod_lt_of_pos a (show (0:Int)<20 by decide); omega
 have h1:1≤h:=by have:=Int.tmod_nonneg 8 b0; omega
 have h2:h≤8:=by have:=Int.tmod_lt_of_pos b (show (0:Int)<8 by decide); omega
 have eA:IntKind.i64.wrap (Int.tmod (IntKind.i64.wrap a) 20+1)=(w:Int):=by
  rw [W_in (x:=a) (by omega) (by omega),W_in (by omega) (by omega),hw]
 have eB:IntKind.i64.wrap (Int.tmod (IntKind.i64.wrap b) 8+1)=(h:Int):=by
  rw [W_in (x:=b) (by omega) (by omega),W_in (by omega) (by omega),hh]
 have hwh:w*h≤160:=Nat.le_trans (Nat.mul_le_mul w2 h2) (by decide)
 have eP:IntKind.i64.wrap ((w:Int)*(h:Int))=((w*h:Nat):Int):=by
  rw [← Int.natCast_mul,W_in (by omega) (by omega)]
 have hl:=pnL_len s
 have hsz:=pn_size s
 refine con_flatZ (F:=fun args' k'=>bif holds (args'=[kv .u8 a,kv .u8 b,sv s]) then k' (fun _=>(bv true,[])) else none) (mg:=[]) (l:=[(23,pnC pnF),(13,aw0C),(18,nwC nwQ newY),(14,wr1C (wr1Q (newY w h)) (newY w h).wr),(25,rpC rpQ rpF)]) (lp:=lpOf [(2042,(jxI txF txQ).g)]) (n:=0) (glOk st) (fun x hm=>?_) Tryz.func7 (by kernel_rfl) (by kernel_rfl) (hx 7 rfl) (lp_in (c0:=.loop (loopAt Tryz.f7 2042)) (by kernel_rfl) (jx_ls ht)) (fun args k hk2=>?_) _ k (hT rfl hk3)
 ·simp only [List.mem_cons,List.not_mem_nil,or_false] at hm
  rcases hm with rfl | rfl | rfl | rfl | rfl
  ·exact (pnC_ok hx).z
  ·exact ha.z
  ·exact nwC_ok hx hk
  ·exact wr1C_ok hx hv _
  ·exact (rpC_ok hr).z
 obtain ⟨e,hk4⟩:=bif_none hk2
 obtain rfl:=holds_eq.1 e
 refine ⟨_,_,.self (.self (.self .nil)),v_clo _,hk4,(xl_tree a b s pnF nwQ newY (wr1Q (newY w h)) (newY w h).wr txQ txF rpQ rpF _).trans ?_⟩
 rw [eA,eB,eP]
 refine dT hs (dS (fun _=>isD_of rfl) fun h200=>dS (fun _=>isD_of rfl) fun hfit=>?_)
 have hfit:(pnF s).size≤w*h:=by omega
 have hy:=newY_ok (w:=w) (h:=h) w1 (by omega) h1 (by omega)
 have hwq:wrQ (newY w h).cells (pnF s):=⟨newY w h,rfl,hy,by omega,pn_prn s,text_fits w1 _ hfit⟩
 have hrows:∀ j,j<h→gRow w (((newY w h).wr (pnF s)).x.R j):=(hy.t.run (z:=fun i=>byteAt (pnF s) i) (n:=(pnF s).size) (fun i hi=>pn_prn s i hi) (fun i hi=>text_fits w1 _ hfit i hi)).g
 have hcell:∀ j k,k<w→((((newY w h).wr (pnF s)).x.R j).tx k).size≤1000:=fun j k hk=>by
  obtain ⟨-,q2,-⟩:=run_txt (z:=fun i=>byteAt (pnF s) i) w1 (x:=(newY w h).x) ⟨by show 0*w+0=0; omega,w1⟩ (fun _ _ _=>rfl) (fun _=>rfl) (pnF s).size
  have e:(((newY w h).wr (pnF s)).x.R j).tx k=(txtR w (fun i=>byteAt (pnF s) i) (pnF s).size j).tx k:=q2 j k hk
  rw [e]
  show (if j*w+k<(pnF s).size then Utf8.encode (byteAt (pnF s) (j*w+k)) else ⟨#[32]⟩:ByteArray).size≤1000
  split
  ·rename_i hq
   rw [ba_size,enc_list (pn_prn s _ hq)]
   show (1:Nat)≤1000
   decide
  ·decide
 have hQ:∀ j,j<h→txQ (((newY w h).wr (pnF s)).x.R j).cell (((newY w h).wr (pnF s)).x.R j).n:=fun j hj=>⟨Row.ok ((hrows j hj).sized (by omega)),by rw [(hrows j hj).1]; omega,by rw [(hrows j hj).1]; omega,fun k hk=>hcell j k (by rw [← (hrows j hj).1]; exact hk)⟩
 have eR:IntKind.i64.wrap (((w*h:Nat):Int)-((pnF s).size:Int))=((w*h-(pnF s).size:Nat):Int):=by rw [W_in (by omega) (by omega)]; omega
 rw [eR]
 have ht2:=text_rows (h:=h) w1 (pn_prn s) hfit
 have hrp:rpF ⟨#[32]⟩ ((w*h-(pnF s).size:Nat):Int)=⟨(Lib.repeatL [32] (w*h-(pnF s).size)).toArray⟩:=by
  unfold rpF
  rw [Int.toNat_natCast]
 have hrs:(rpF ⟨#[32]⟩ ((w*h-(pnF s).size:Nat):Int)).size≤1000:=by
  rw [hrp,ba_size,rep_list]
  simp
  omega
 refine hT ⟨by omega,by omega,by omega,by omega⟩ (dT h1 (dT h1 (hT ⟨rfl,hwq⟩ (hT ⟨⟨Nat.zero_le _,by show h≤9000000; omega,fun j hj=>⟨hQ j hj,txF_size (hrows j hj) (hcell j) (by omega)⟩,Nat.zero_le _⟩,[],?_⟩ (hT ⟨by omega,by omega,by show (1:Nat)≤1000; decide⟩ (dT (by omega) (cT ?_ (isD_of rfl))))))))
 ·refine .of (im:=[some 0]) (.cons (.v _) (.cons (.v _) (.cons (.v _) (.cons (.po rfl) (.cons (.v _) (.cons (.sl _ _ _ _) (.cons (.v _) (.cons (.v _) .nil)))))))) rfl ⟨⟨0,_,rfl,rfl,rfl,Nat.le_refl _,trivial,fun i f hi hf=>?_⟩,trivial⟩ rfl (by decide)
  have hi:i<1:=hi
  obtain rfl:i=0:=by omega
  show Sub _ (bif Nat.beq f 36 then nilS else .any) _
  by_cases h36:f=36
  ·subst h36
   exact .v _
  ·rw [nb h36]
   exact .any _
 ·have e:∀ {x y:ByteArray},x.data.toList=y.data.toList→(x.toList==y.toList)=true:=fun {x y} h=>by
   have:x=y:=by
    cases x with
    | mk x =>
     cases y with
     | mk y =>
      congr 1
      cases x
      cases y
      congr 1
   rw [this]
   exact beq_self_eq_true _
  exact e (by rw [hrp]; exact ht2)
end Go.Proofs.YtigmkgampfbflaaGreatDoor
namespace Go.Proofs
open Go.Shelf
def Tryz.lays196_ren:Go.Shelf.Ren:=⟨fun | 196=>70 | 259=>109 | n=>n,fun | 9=>9 | 4=>4 | 3=>3 | 5=>5 | 12=>12 | 119=>158 | 0=>0 | 46=>109 | 139=>161 | 138=>160 | 53=>153 | n=>n,fun | 3=>0 | 4=>1 | n=>n⟩
theorem Tryz.lays196:Go.Proofs.Lays.n196 Tryz.prog Tryz.lays196_ren:={
 mixed:=by kernel_rfl
 f196:=Tryz.func70.trans (congrArg some (by kernel_rfl))
 f259:=Tryz.func109.trans (congrArg some (by kernel_rfl))
 t0:=Tryz.underlying0
 a0:=Tryz.isAgg0
 z0:=Tryz.sizeOf0
 v0:=Tryz.zeroValue0
 t3:=Tryz.underlying3
 a3:=Tryz.isAgg3
 z3:=Tryz.sizeOf3
 v3:=Tryz.zeroValue3
 t4:=Tryz.underlying4
 a4:=Tryz.isAgg4
 z4:=Tryz.sizeOf4
 v4:=Tryz.zeroValue4
 t5:=Tryz.underlying5
 a5:=Tryz.isAgg5
 z5:=Tryz.sizeOf5
 v5:=Tryz.zeroValue5
 t9:=Tryz.underlying9
 a9:=Tryz.isAgg9
 z9:=Tryz.sizeOf9
 v9:=Tryz.zeroValue9
 t12:=Tryz.underlying12
 a12:=Tryz.isAgg12
 z12:=Tryz.sizeOf12
 v12:=Tryz.zeroValue12
 t46:=Tryz.underlying109
 a46:=Tryz.isAgg109
 z46:=Tryz.sizeOf109
 v46:=Tryz.zeroValue109
 t53:=Tryz.underlying153
 a53:=Tryz.isAgg153
 z53:=Tryz.sizeOf153
 v53:=Tryz.zeroValue153
 t119:=Tryz.underlying158
 a119:=Tryz.isAgg158
 z119:=Tryz.sizeOf158
 t138:=Tryz.underlying160
 a138:=Tryz.isAgg160
 z138:=Tryz.sizeOf160
 v138:=Tryz.zeroValue160
 t139:=Tryz.underlying161
 a139:=Tryz.isAgg161
 z139:=Tryz.sizeOf161
 v139:=Tryz.zeroValue161
 g3:=by kernel_rfl
 g4:=by kernel_rfl }
open Go.RowKit in
/-- unicode/utf8.ValidString, at every string. -/
theorem Tryz.utf8_ValidString (s:ByteArray) (w:World) (hs:s.size≤9223372036854775807) (hT:Lib.Utf8Tabs (Tryz.lays196_ren.g 3) (Tryz.lays196_ren.g 4) w) :
  Calls Tryz.prog 70 #[.string s] w fun e w'=>e=.returned (.bool (Lib.validD s.data.toList))∧Below w.heap.size w w':=Any.utf8_ValidString Tryz.lays196 s w hs hT
end Go.Proofs
namespace Go.Proofs.YtigmkgampfbflaaGreatDoor
open Go Go.AE Go.DE Go.RowKit Go.ChangeShapes Go.Joins
def vdV:List Value→Option Value
 | [.string s]=>if s.size≤9000000 then some (.bool (vdF s)) else none
 | _=>none
theorem tabs_keep {W w:World}(h:Lib.Utf8Tabs 0 1 W) (hw:Below W.heap.size W w):Lib.Utf8Tabs 0 1 w:=by
 have key:∀ {g i:Nat}{v:Value},W.cell? ⟨g,i,none⟩=some v→w.cell? ⟨g,i,none⟩=some v:=fun hc=>(hw.cell (p:=⟨_,_,none⟩) (World.block_lt_of_cell? _ _ hc)).trans hc
 exact ⟨fun c hc=>key (h.1 c hc),fun i hi=>⟨key (h.2 i hi).1,key (h.2 i hi).2⟩⟩
theorem fnOk_vd {W:World}(h:Lib.Utf8Tabs 0 1 W):FnOk Tryz.prog W 70 (fun a σ=>RG.app σ (keepX vdV a)):=by
 refine fnOk_keep fun args v hg=>?_
 unfold vdV at hg
 split at hg<;>first | (cases hg; done) | skip
 rename_i s
 split at hg<;>first | (cases hg; done) | skip
 rename_i hs
 obtain rfl:=Option.some.inj hg
 exact ⟨rfl,rfl,fun w hw=>Tryz.utf8_ValidString s w (Nat.le_trans hs (by decide)) (tabs_keep h hw)⟩
theorem fnOk_rp {W:World}:FnOk Tryz.prog W 25 (fun a σ=>RG.app σ (keepX rpV a)):=by
 refine fnOk_keep fun args v hg=>?_
 unfold rpV at hg
 split at hg<;>first | (cases hg; done) | skip
 rename_i s c
 split at hg<;>first | (cases hg; done) | skip
 rename_i hs
 obtain ⟨h0,h1,h2⟩:=hs
 obtain rfl:=Option.some.inj hg
 refine ⟨rfl,rfl,fun w hw=>?_⟩
 obtain ⟨n,rfl⟩:∃ n:Nat,c=n:=⟨c.toNat,by omega⟩
 have hm:s.size*n≤1000*1000:=Nat.mul_le_mul h2 (by omega)
 rw [Int.toNat_natCast]
 exact Tryz.strings_Repeat s n w (by omega) (by omega)
noncomputable def extX (W:World):ExtL:=fun f args g N=>match f with
 | 13=>toL (keepX awV args)
 | 24=>toL (tnX ⟨stOf W,fun _ _ _=>none⟩ g args)
 | 25=>toL (keepX rpV args)
 | 70=>toL (keepX vdV args)
 | 157=>blkX args N
 | _=>none
noncomputable def stX (W:World):AE.Stat:=⟨stOf W,extOfL (extX W)⟩
theorem stX_good (W:World):GoodSt W (stX W):=stOf_good W _
theorem hxX (W:World):∀ f,exA f=false→∀ a σ,(stX W).ext f a σ=none:=fun f h a σ=>by
 have h1:f≠13:=fun e=>by subst e; cases h
 have h2:f≠24:=fun e=>by subst e; cases h
 have h3:f≠25:=fun e=>by subst e; cases h
 have h4:f≠70:=fun e=>by subst e; cases h
 have h5:f≠157:=fun e=>by subst e; cases h
 have:extX W f a (hp σ) σ.length=none:=by
  unfold extX
  split<;>first | contradiction | rfl
 simp [stX,extOfL,RL.app,this]
theorem hkX (W:World):∀ a σ,(stX W).ext 157 a σ=RL.app σ (blkX a σ.length):=fun _ _=>rfl
theorem htX (W:World):∀ a σ,(stX W).ext 24 a σ=RL.app σ (toL (tnX (stX W) (hp σ) a)):=fun _ _=>rfl
theorem hrX (W:World):∀ a σ,(stX W).ext 25 a σ=RL.app σ (toL (keepX rpV a)):=fun _ _=>rfl
theorem awX_ok (W:World):ConOk Tryz.prog (stX W) 13 aw0C:=aw0C_ok fun C σ vs _ ha=>by
 obtain rfl:vs=[]:=ha.nil_inv
 rfl
theorem vdX (W:World):VdOk (stX W):=fun s σ hs=>by
 have e:vdV [.string s]=some (.bool (vdF s)):=if_pos hs
 show RL.app σ (toL (keepX vdV [.string s]))=_
 unfold keepX
 rw [e]
 rfl
theorem extX_ok {W:World}(hst:GoodSt W stA) (ht:Lib.Utf8Tabs 0 1 W):CallOk Tryz.prog W (stX W).ext:=by
 intro f
 by_cases h1:f=13
 ·subst h1; exact keep_fnL (awake_ok hst)
 by_cases h2:f=24
 ·subst h2; exact fnOk_textN (stOf_good W _)
 by_cases h3:f=25
 ·subst h3
  intro args σ v σ' hx
  refine fnOk_rp args σ v σ' ?_
  have hx:RL.app σ (toL (keepX rpV args))=some (v,σ'):=hx
  rwa [toL_app keepX_keep] at hx
 by_cases h4:f=70
 ·subst h4
  intro args σ v σ' hx
  refine fnOk_vd ht args σ v σ' ?_
  have hx:RL.app σ (toL (keepX vdV args))=some (v,σ'):=hx
  rwa [toL_app keepX_keep] at hx
 by_cases h5:f=157
 ·subst h5; exact fnOk_blk follows
 ·intro args σ v σ' hx
  have h:extX W f args (hp σ) σ.length=none:=by
   unfold extX
   split<;>first | contradiction | rfl
  have e:(stX W).ext f args σ=none:=by simp [stX,extOfL,RL.app,h]
  rw [e] at hx
  cases hx
theorem bulk_mem {H:Type}{d:DataW H}:∀ {l:List (DataW H)},d∈l→Rows.uptoBulk d≤Rows.uptoBulkAll l
 | x :: l,h=>by
  rw [Rows.uptoBulkAll]
  rcases List.mem_cons.1 h with rfl | h
  ·exact Nat.le_add_right _ _
  ·exact Nat.le_trans (bulk_mem h) (Nat.le_add_left _ _)
theorem bulk_pos {H:Type}(d:DataW H):1≤Rows.uptoBulk d:=by
 cases d<;>(try unfold Rows.uptoBulk)<;>first | exact Nat.le_refl 1 | exact Nat.le_add_left _ _ | skip
 rename_i l
 cases l<;>first | exact Nat.le_add_left _ _ | exact Nat.le_refl 1
theorem bulk_len {H:Type}:∀ (l:List (DataW H)),l.length≤Rows.uptoBulkAll l
 | []=>Nat.zero_le _
 | x :: l=>by
  rw [Rows.uptoBulkAll,List.length_cons]
  have:=bulk_len l
  have:=bulk_pos x
  omega
theorem bulkOk {H:Type}:BkOk (H:=H) Rows.uptoBulk :=
 ⟨fun l=>by unfold Rows.uptoBulk; exact Nat.le_add_right _ _,fun l d h=>by rw [Rows.uptoBulk]; exact Nat.le_trans (bulk_mem h) (Nat.le_add_right _ _),
  fun l sp d h=>by rw [Rows.uptoBulk]; have:=bulk_mem h; omega,fun l sp=>by rw [Rows.uptoBulk]; have:=bulk_len l; omega⟩
end Go.Proofs.YtigmkgampfbflaaGreatDoor
namespace Go.Proofs.YtigmkgampfbflaaGreatDoor
open Go Go.AE Go.DE Go.RowKit Go.ChangeShapes Go.Joins
theorem own:ownKnob Tryz.prog.godebug=none:=by kernel_rfl
theorem laidOut:laidOutB Tryz.prog=true:=by kernel_rfl
theorem laidVar_of_mem {P:Program}{W:World}{n:String}{d:DataW Unit}:∀ {l:List (String×DataW Unit)}{ps:List MemPlace},DataW.LaidVars P W l ps→(n,d)∈l →
  ∃ g t cs fuel p,P.globalNamed n=some g∧(P.globals[g]?).map (·.type)=some t∧W.var? P n=some cs∧DataW.trod (fun _=>()) P W 0 (fun _=>true) false fuel t cs.toList=some (d,p)
 | [],_,_,hm=>by cases hm
 | (n',d') :: l,ps,h,hm=>by
  obtain ⟨g,t,cs,fuel,p,q,hg,ht,hv,hd,hr,_⟩:=h
  rcases List.mem_cons.1 hm with e | hm
  ·cases e
   exact ⟨g,t,cs,fuel,p,hg,ht,hv,hd⟩
  ·exact laidVar_of_mem hr hm
theorem tabIs_of_mem {P:Program}{W:World}{name:String}{k:IntKind}{zs:List Int}{l:List (String×DataW Unit)}{g:Nat}{t e:TypeId}{n:Nat}(hm:(name,Lib.tabData k zs)∈l)
  (hg:P.globalNamed name=some g) (hty:(P.globals[g]?).map (·.type)=some t) (ht:P.underlying t=some (.array n e)) (he:P.underlying e=some (.int k)) (hce:P.cellsOf e=1) (hct:P.cellsOf t=n)
  (h:laidMet P l W):Lib.TabIs P W name k zs:=by
 obtain ⟨ps,hv,_⟩:=h
 obtain ⟨g',t',cs,fuel,p,hg',ht',hvar,hd⟩:=laidVar_of_mem hv hm
 obtain rfl:=Option.some.inj (hg.symm.trans hg')
 obtain rfl:=Option.some.inj (hty.symm.trans ht')
 have hc:=Lib.cells_of_tab ht he hce hct hd
 unfold Lib.TabIs
 rw [hvar]
 refine congrArg some ?_
 cases cs
 simp only at hc
 rw [hc]
theorem codes_data:Rows.laid_narrator_attr_codes=(Lib.tabData .i64 [1,2,3,4,5,7,8,9]:DataW Unit):=by kernel_rfl
theorem gCodes:Tryz.prog.globalNamed "narrator/attr.codes"=some 3:=by kernel_rfl
set_option maxRecDepth 100000 in
theorem plainL:(Rows.terminalTextUptoRow.laid.all fun x=>x.2.handleName?.isNone)=true:=by kernel_rfl
set_option maxRecDepth 100000 in
theorem codesL:Rows.terminalTextUptoRow.laid[3]?=some ("narrator/attr.codes",Rows.laid_narrator_attr_codes):=by kernel_rfl
theorem table {W:World}(h:laidMetH Tryz.prog Rows.terminalTextUptoRow.laid W):Lib.TabIs Tryz.prog W "narrator/attr.codes" .i64 [1,2,3,4,5,7,8,9]:=by
 rw [MakeChecks.laidMetH_plain _ _ _ plainL] at h
 have hm:=List.mem_of_getElem? codesL
 rw [codes_data] at hm
 obtain ⟨t,ht⟩:∃ t,(Tryz.prog.globals[3]?).map (·.type)=some t∧(∃ e,Tryz.prog.underlying t=some (.array 8 e)∧Tryz.prog.underlying e=some (.int .i64)∧Tryz.prog.cellsOf e=1)∧Tryz.prog.cellsOf t=8:=by
  refine ⟨((Tryz.prog.globals[3]?).map (·.type)).getD 0,?_,⟨(match Tryz.prog.underlying (((Tryz.prog.globals[3]?).map (·.type)).getD 0) with | some (.array _ e)=>e | _=>0),?_,?_,?_⟩,?_⟩<;>kernel_rfl
 obtain ⟨e,he⟩:=ht.2.1
 exact tabIs_of_mem hm (g:=3) gCodes ht.1 he.1 he.2.1 he.2.2 ht.2.2 h
set_option maxRecDepth 100000 in
theorem accL:Rows.terminalTextUptoRow.laid[4]?=some ("unicode/utf8.acceptRanges",Rows.laid_unicode_utf8_acceptRanges):=by kernel_rfl
set_option maxRecDepth 100000 in
theorem firL:Rows.terminalTextUptoRow.laid[5]?=some ("unicode/utf8.first",Rows.laid_unicode_utf8_first):=by kernel_rfl
theorem acc_data:(Rows.laid_unicode_utf8_acceptRanges:DataW Unit)=Lib.acceptData:=by kernel_rfl
theorem fir_data:Rows.laid_unicode_utf8_first=Lib.firstData:=by kernel_rfl
theorem u8X:U8Extra Tryz.prog Tryz.lays196_ren where
 n3:=by kernel_rfl
 n4:=by kernel_rfl
 y3:=by kernel_rfl
 y4:=by kernel_rfl
 c5:=by kernel_rfl
 c119:=by kernel_rfl
 c138:=by kernel_rfl
theorem utf8_tabs {W:World}(h:laidMetH Tryz.prog Rows.terminalTextUptoRow.laid W):Lib.Utf8Tabs 0 1 W:=by
 rw [MakeChecks.laidMetH_plain _ _ _ plainL] at h
 have m4:=List.mem_of_getElem? accL
 have m5:=List.mem_of_getElem? firL
 rw [acc_data] at m4
 rw [fir_data] at m5
 exact utf8Tabs_of_readsT (.of196 Tryz.lays196) u8X (Lib.laidMet.reads h m5) (Lib.laidMet.reads h m4)
theorem stA_good {W:World}(h:laidMetH Tryz.prog Rows.terminalTextUptoRow.laid W):GoodSt W stA:=by
 intro b i v hb
 have ht:=table h
 unfold Lib.TabIs World.var? at ht
 rw [gCodes] at ht
 simp only [Option.bind_some] at ht
 split at ht
 ·rename_i cs ty fr hw
  obtain rfl:=Option.some.inj ht
  have hc:∀ (j:Nat) (u:Value),(#[Value.int .i64 1,.int .i64 2,.int .i64 3,.int .i64 4,.int .i64 5,.int .i64 7,.int .i64 8,.int .i64 9]:Array Value)[j]?=some u→W.cell? ⟨3,j,none⟩=some u:=fun j u hu=>by
   unfold World.cell?
   simp only [hw,Option.isSome_none,Bool.false_eq_true,if_false]
   exact hu
  have key:∃ n:Int,v=.int .i64 n∧W.cell? ⟨b,i,none⟩=some (.int .i64 n):=by
   have hb:stC b i=some v:=hb
   unfold stC at hb
   split at hb<;>first | (cases hb; done) | skip
   unfold codesV at hb
   split at hb<;>first | (cases hb; done) | skip
   all_goals
    obtain rfl:=Option.some.inj hb
    exact ⟨_,rfl,hc _ _ rfl⟩
  obtain ⟨n,rfl,h2⟩:=key
  exact ⟨_,h2,fun ρ=>.int _ _⟩
 ·cases ht
theorem okWide_u8 {P:Program}{w:World}{r:Reach}{base:Nat}{t:TypeId}{v:Value}(ht:P.underlying t=some (.int .u8)) (h:Value.okWide P w r base t v):∃ n,v=.int .u8 n∧0≤n∧n<256:=by
 obtain ⟨n,rfl⟩:=Go.WideShapes.okWide_int ht h
 refine ⟨n,rfl,?_⟩
 simp only [Value.okWide,ht,Cell.okWide] at h
 simp only [Cell.ok,IntKind.has,ht] at h
 obtain ⟨-,h1,h2⟩:=h
 have e1:IntKind.u8.min=0:=rfl
 have e2:IntKind.u8.max=255:=by decide
 omega
theorem law_calls {H:Type}{enc:TypeId×Value→H}{W:World}{f:FuncId}{fn:Func}{F:ConF}{s:ChangeSpec}{args:Array Value}{ds gs:List (DataW H)}{before:List MemPlace}{dv:List DV}{vs:List Value}
  (hf:Tryz.prog.funcs[f]?=some fn) (hn:(fn.name== "runtime.NumGoroutine")=false) (hb:fn.body.isNone=false) (hres:fn.resultTypes=#[4]) (hread:∀ t∈fn.params.toList,Tryz.prog.readableRec t=true∧t<Tryz.prog.types.size)
  (hW:DataW.Whole enc Tryz.prog fn.params.toList s.vars false W args.toList ds gs before) (hv:s.vars=[]) (hfn:s.fn H (ds++[])={ results:=[.lit (.bool true)],args:=ds })
  (hT:GoodSt W stA) (hU:Lib.Utf8Tabs 0 1 W) {z:Bool}(hF:ConOkZ z Tryz.prog (stX W) f F) (hx:∀ k,k (fun _=>(.v (.bool true),[]))=some ()→F dv k=some ()) (ha:DRL (baseC (stX W)) noMu dv vs) (hvs:VRL (fun _=>none) vs args.toList) :
  Calls Tryz.prog f args W fun e W'=>∃ v,e=.returned v∧s.post enc Tryz.prog fn false true false false W args v W':=by
 have hc:=calls_of_con (w:=W) (stX_good W) (extX_ok hT hU) follows hf hn hb hF hx ha hvs (.refl _ _)
 rw [show args.toList.toArray=args by simp] at hc
 exact hc.mono fun e W' ⟨he,hb'⟩=>⟨_,he,post_true laidOut hread hW hv hfn hres Tryz.underlying4 hb'⟩
set_option maxRecDepth 100000 in
theorem contract (H:Type) (enc:TypeId×Value→H) (W:World) (base:Nat) (args:Array Value) (ds gs:List (DataW H)) (before:List MemPlace)
  (hval:∀ (j:Nat) t v,Tryz.f7.params[j]?=some t→args[j]?=some v→Value.okWide Tryz.prog W .any base t v)
  (hW:DataW.Whole enc Tryz.prog Tryz.f7.params.toList Rows.terminalTextSpec.vars false W args.toList ds gs before) (hL:laidMetH Tryz.prog Rows.terminalTextUptoRow.laid W) (hB:Rows.uptoSmall H (ds++gs)=true) :
  Calls Tryz.prog 7 args W fun e W'=>∃ v,e=.returned v∧Rows.terminalTextSpec.post enc Tryz.prog Tryz.f7 false true false false W args v W':=by
 have hW':=hW
 obtain ⟨p,q,hA,hV,rfl,hfz,hnd⟩:=hW
 rw [Tryz.params7] at hA hval
 obtain ⟨v0,vs0,d0,ds0,p0,q0,hargs,rfl,rfl,h0,r0⟩:=trodAll_cons hA
 obtain ⟨v1,vs1,d1,ds1,p1,q1,e1,rfl,rfl,h1,r1⟩:=trodAll_cons r0
 obtain ⟨v2,vs2,d2,ds2,p2,q2,e2,rfl,rfl,h2,r2⟩:=trodAll_cons r1
 subst e1
 subst e2
 obtain ⟨rfl,rfl,rfl⟩:=trodAll_nil r2
 obtain rfl:args=#[v0,v1,v2]:=by cases args; simp_all
 have hB':Rows.uptoBulkAll (([d0,d1,d2]:List (DataW H))++gs)≤1048576:=of_decide_eq_true hB
 obtain ⟨n0,rfl,a0,a1⟩:=okWide_u8 Tryz.underlying5 (hval 0 5 v0 rfl rfl)
 obtain ⟨n1,rfl,b0,b1⟩:=okWide_u8 Tryz.underlying5 (hval 1 5 v1 rfl rfl)
 obtain ⟨s,rfl⟩:=Go.WideShapes.okWide_string Tryz.underlying9 (hval 2 9 v2 rfl rfl)
 have hs:s.size≤1048576:=by
  obtain ⟨m,h2⟩:=h2
  obtain ⟨s',e1,e2,-⟩:=DataW.trod_string Tryz.underlying9 h2
  have e1:s=s':=by simpa [Value.cells] using e1
  subst e1
  have hb2:Rows.uptoBulk d2≤1048576:=Nat.le_trans (bulk_mem (by simp)) hB'
  have e3:d2=.lit (.string s.data.toList):=by
   have:=congrArg Prod.fst e2
   exact this
  rw [e3] at hb2
  refine Nat.le_trans ?_ (Nat.le_trans (bulkOk.str _) hb2)
  simp
 refine law_calls (dv:=[kv .u8 n0,kv .u8 n1,sv s]) Tryz.func7 rfl rfl (by kernel_rfl) ?_ hW' rfl rfl (stA_good hL) (utf8_tabs hL) (la7C_ok (hxX W) (vdX W) (hkX W) (htX W) (hrX W) (awX_ok W))
  (fun k hk=>hT ⟨a0,a1,b0,b1,Nat.le_trans hs (by decide)⟩ hk) (.cons (.v _ rfl) (.cons (.v _ rfl) (.cons (.v _ rfl) (.nil _ _)))) (.cons (.int _ _) (.cons (.int _ _) (.cons (.string _) (.nil _))))
 rw [Tryz.params7]
 intro t ht
 have ht:t=5∨t=5∨t=9:=by simpa using ht
 rcases ht with rfl | rfl | rfl
 ·exact ⟨by kernel_rfl,by decide +kernel⟩
 ·exact ⟨by kernel_rfl,by decide +kernel⟩
 ·exact ⟨by kernel_rfl,by decide +kernel⟩
theorem witness_laid {H:Type}{enc:TypeId×Value→H}{os:Os}{f:FuncId}{fn:Func}{s:OpenSpec}{conds:List PathCond}{laid:List (String×DataW Unit)}(args:Array Value)
  (hsh:((World.laidAll Tryz.prog os laid).forCall (fun _ _=>0) ⟨#[],args,[]⟩).Shaped Tryz.prog)
  (hok:Input.okWideB Tryz.prog ((World.laidAll Tryz.prog os laid).forCall (fun _ _=>0) ⟨#[],args,[]⟩) f ⟨#[],args,[]⟩=true)
  (hrow:s.preRow enc Tryz.prog fn conds false laid ((World.laidAll Tryz.prog os laid).forCall (fun _ _=>0) ⟨#[],args,[]⟩).memory args) :
  ∃ (w:World) (tape:Tape) (i:Input),w.os=os∧(w.forCall tape i).Shaped Tryz.prog∧i.vars=[]∧Input.okWide Tryz.prog (w.forCall tape i) .any w.heap.size f i ∧
   s.preRow enc Tryz.prog fn conds false laid (w.forCall tape i).memory i.args∧({ modest:=false }:Assume).holds Tryz.prog (lone (Frame.enter Tryz.prog f i.args .normal) [] (w.forCall tape i)) :=
 ⟨World.laidAll Tryz.prog os laid,fun _ _=>0,⟨#[],args,[]⟩,World.laidAll_os _ _ _,hsh,(Input.okWide_of_okWideB (base:=0) hok).1,(Input.okWide_of_okWideB hok).2,hrow,by
  simp only [Assume.holds]
  exact ⟨by simp,by simp,fun _=>Modest.zero,by simp,by simp⟩⟩
def wargs:Array Value:=#[.int .u8 0,.int .u8 0,.string ⟨#[]⟩]
set_option maxRecDepth 100000 in
theorem laid_met (os:Os):laidMetH Tryz.prog Rows.terminalTextUptoRow.laid ((World.laidAll Tryz.prog os Rows.terminalTextUptoRow.laid).forCall (fun _ _=>0) ⟨#[],wargs,[]⟩).memory:=by
 rw [MakeChecks.laidMetH_plain _ _ _ plainL]
 exact laidMet_laidAll _ (by kernel_rfl) (by kernel_rfl)
set_option maxRecDepth 100000 in
theorem shaped (os:Os):((World.laidAll Tryz.prog os Rows.terminalTextUptoRow.laid).forCall (fun _ _=>0) ⟨#[],wargs,[]⟩).Shaped Tryz.prog:=World.shaped_of_ZipB (by kernel_rfl) (by kernel_rfl)
set_option maxRecDepth 100000 in
theorem reads (os:Os) {H:Type}(enc:TypeId×Value→H):∃ places,DataW.whole enc Tryz.prog ((World.laidAll Tryz.prog os Rows.terminalTextUptoRow.laid).forCall (fun _ _=>0) ⟨#[],wargs,[]⟩).memory Tryz.f7.params.toList Rows.terminalTextSpec.vars false wargs.toList 8 =
  some ([.lit (.int .u8 0),.lit (.int .u8 0),.lit (.string [])],[],places) :=
 ⟨[],by kernel_rfl⟩
set_option maxRecDepth 100000 in
theorem lifted (os:Os) (started:os.Started) (H:Type) (enc:TypeId×Value→H) (F:Stop.Interp) :
  ReturnsInHanded {} Tryz.checked os 7 .any ((Rows.OpenSpec.upto Rows.terminalTextSpec).preRow enc Tryz.prog Tryz.f7 Rows.terminalTextUptoRow.domain false Rows.terminalTextUptoRow.laid) (((Rows.OpenSpec.upto Rows.terminalTextSpec).at F).post enc Tryz.prog Tryz.f7 false true false false):=by
 obtain ⟨places,hx⟩:=reads os enc
 refine returnsInHanded_of_row (C:=Tryz.checked) (s:=Rows.OpenSpec.upto Rows.terminalTextSpec) own started (by kernel_rfl) Tryz.func7
  (witness_laid (enc:=enc) wargs (shaped os) (by kernel_rfl) (OpenSpec.preRow_of_cond 8 hx (by kernel_rfl) (fun k hk=>by cases hk; kernel_rfl) (by kernel_rfl) (laid_met os))) ?_
 intro W base args ds gs before hval hW _ hcond _ hL _ _
 exact contract H enc W base args ds gs before hval hW hL (hcond _ rfl)
end Go.Proofs.YtigmkgampfbflaaGreatDoor
namespace Go.Proofs.YtigmkgampfbflaaGreatDoor
open Go Go.AE Go.DE Go.RowKit Go.ChangeShapes Go.Joins
theorem fact1:(Rows.terminalTextUptoRow.inPlace==Tryz.pinned.checked.prog.inPlace 7)=true:=by kernel_rfl
theorem fact2:(Rows.terminalTextUptoRow.unfollowed==Tryz.pinned.checked.prog.unfollowed 7)=true:=by kernel_rfl
theorem fact3:(Rows.terminalTextUptoRow.recurses==Tryz.pinned.checked.prog.recurses 7)=true:=by kernel_rfl
theorem fact4:(Rows.terminalTextUptoRow.named==Tryz.pinned.checked.prog.varsNamed 7)=true:=by kernel_rfl
theorem closed:joinedFacts Tryz.pinned.checked.prog 7 Tryz.f7 (Rows.OpenSpec.upto Rows.terminalTextSpec).bare Rows.terminalTextUptoRow=true:=by
 unfold joinedFacts
 rw [fact1,fact2,fact3,fact4]
 kernel_rfl
theorem said:Rows.TerminalTextUptoSaid :=
 OpenClaim.holds_of_cond 7 Tryz.f7 rfl rfl rfl rfl rfl rfl rfl ⟨rfl,rfl,rfl,rfl,rfl⟩ rfl rfl rfl rfl rfl (by kernel_rfl) Tryz.func7 closed
  (of_decide_eq_true (by kernel_rfl)) (by unfold Func.isWrapper; first | (rw [if_pos (by decide +kernel)]; kernel_rfl) | (rw [if_neg (by decide +kernel)]; exact ⟨rfl,rfl⟩))
  (fun os started H enc _ F=>by rw [OpenClaim.pre_eq_preRow]; exact lifted os started H enc F)
theorem plain (f:FuncId) (fn:Func) (hf:Tryz.pinned.checked.prog.funcNamed "narrator/narratorlaw13.TerminalText"=some f) (hfn:Tryz.pinned.checked.prog.funcs[f]?=some fn) :
  false=Tryz.pinned.checked.prog.looks []∧∀ (j:Nat) t,fn.params[j]?=some t→Tryz.pinned.checked.prog.wantsStandIn t=false:=by
 obtain rfl:f=7:=Option.some.inj ((show Tryz.prog.funcNamed "narrator/narratorlaw13.TerminalText"=some 7 by kernel_rfl).symm.trans hf) |>.symm
 obtain rfl:fn=Tryz.f7:=(Option.some.inj (Tryz.func7.symm.trans hfn)).symm
 refine ⟨by kernel_rfl,fun j t ht=>?_⟩
 rw [Tryz.params7] at ht
 have ht:t=5∨t=5∨t=9:=by simpa using Array.mem_of_getElem? ht
 rcases ht with rfl | rfl | rfl
 ·show Tryz.prog.wantsStandIn _=false
  kernel_rfl
 ·show Tryz.prog.wantsStandIn _=false
  kernel_rfl
 ·show Tryz.prog.wantsStandIn _=false
  kernel_rfl
theorem card:Rows.TerminalTextUptoCardSaid :=
 Claim7.holds_tied_plain_at .later [] _ _ _ _ said (fun _ h=>by cases h) (by kernel_rfl) (fun _ h=>by cases h) terminalTextUpto_row_tie rfl ⟨rfl,rfl⟩ (by kernel_rfl) rfl plain (by kernel_rfl)
#print axioms card
end Go.Proofs.YtigmkgampfbflaaGreatDoor
