/-
 'narratorlaw13.TerminalReplies': for every terminal of bulk at most 1048576 and every number the law answers true and leaves the input as it was.
 Conditions: the row's own (what is read is of bulk at most 1048576),and that the listed tables hold what it lists.
-/
import Derived.Shelf.LaysM
import Derived.Shelf.Unicode.ValidAny
import Derived.Ground.SlgnProg
import Derived.Test.YtigmkgampfbflaaGreatDoorProg
import Derived.Test.YtigmkgampfbflaaGreatDoorJAw
import Derived.Test.YtigmkgampfbflaaGreatDoorDeLst
import Derived.Test.YtigmkgampfbflaaGreatDoorAeMpg
import Derived.Test.YtigmkgampfbflaaGreatDoorCards
import Derived.Test.YtigmkgampfbflaaGreatDoorTie
import Derived.Lay
import Derived.Lib.LaidTab
import Derived.Lib.SmallJoins
import Derived.WalkKit
import Derived.MakeChecks
import Derived.Deep.DeepHandedRow
import Derived.ChangeMaps5
import Derived.Lib.LaidU8T
namespace Go.Proofs
open Go.Shelf
def Tryz.lays196_ren:Go.Shelf.Ren:=⟨fun | 196=>70 | 259=>109 | n=>n,fun | 9=>9 | 4=>4 | 3=>3 | 5=>5 | 12=>12 | 119=>158 | 0=>0 | 46=>109 | 139=>161 | 138=>160 | 53=>153 | n=>n,fun | 3=>0 | 4=>1 | n=>n⟩
theorem Tryz.lays196:Go.Proofs.Lays.n196 Tryz.prog Tryz.lays196_ren:={
 mixed:=by kernel_rfl
 f196:=Tryz.func70.trans (congrArg some (by kernel_rfl))
 f259:=Tryz.func109.trans (congrArg some (by kernel_rfl))
 t0:=Tryz.underlying0
 a0:=Tryz.isAgg0
 z0:=Tryz.sizeOf0
 v0:=Tryz.zeroValue0
 t3:=Tryz.underlying3
 a3:=Tryz.isAgg3
 z3:=Tryz.sizeOf3
 v3:=Tryz.zeroValue3
 t4:=Tryz.underlying4
 a4:=Tryz.isAgg4
 z4:=Tryz.sizeOf4
 v4:=Tryz.zeroValue4
 t5:=Tryz.underlying5
 a5:=Tryz.isAgg5
 z5:=Tryz.sizeOf5
 v5:=Tryz.zeroValue5
 t9:=Tryz.underlying9
 a9:=Tryz.isAgg9
 z9:=Tryz.sizeOf9
 v9:=Tryz.zeroValue9
 t12:=Tryz.underlying12
 a12:=Tryz.isAgg12
 z12:=Tryz.sizeOf12
 v12:=Tryz.zeroValue12
 t46:=Tryz.underlying109
 a46:=Tryz.isAgg109
 z46:=Tryz.sizeOf109
 v46:=Tryz.zeroValue109
 t53:=Tryz.underlying153
 a53:=Tryz.isAgg153
 z53:=Tryz.sizeOf153
 v53:=Tryz.zeroValue153
 t119:=Tryz.underlying158
 a119:=Tryz.isAgg158
 z119:=Tryz.sizeOf158
 t138:=Tryz.underlying160
 a138:=Tryz.isAgg160
 z138:=Tryz.sizeOf160
 v138:=Tryz.zeroValue160
 t139:=Tryz.underlying161
 a139:=Tryz.isAgg161
 z139:=Tryz.sizeOf161
 v139:=Tryz.zeroValue161
 g3:=by kernel_rfl
 g4:=by kernel_rfl }
open Go.RowKit in
/-- unicode/utf8.ValidString, at every string. -/
theorem Tryz.utf8_ValidString (s:ByteArray) (w:World) (hs:s.size<=9223372036854775807) (hT:Lib.Utf8Tabs (Tryz.lays196_ren.g 3) (Tryz.lays196_ren.g 4) w) :
  Calls Tryz.prog 70 #[.string s] w fun e w'=>e=.returned (.bool (Lib.validD s.data.toList))/\Below w.heap.size w w':=Any.utf8_ValidString Tryz.lays196 s w hs hT
end Go.Proofs
namespace Go.Proofs.YtigmkgampfbflaaGreatDoor
open Go Go.AE Go.DE Go.RowKit Go.ChangeShapes Go.Joins
def vdV:List Value->Option Value
 | [.string s]=>if s.size<=9000000 then some (.bool (vdF s)) else none
 | _=>none
theorem tabs_keep {W w:World}(h:Lib.Utf8Tabs 0 1 W) (hw:Below W.heap.size W w):Lib.Utf8Tabs 0 1 w:=by
 have key:∀ {g i:Nat}{v:Value},W.cell? ⟨g,i,none⟩=some v->w.cell? ⟨g,i,none⟩=some v:=fun hc=>(hw.cell (p:=⟨_,_,none⟩) (World.block_lt_of_cell? _ _ hc)).trans hc
 exact ⟨fun c hc=>key (h.1 c hc),fun i hi=>⟨key (h.2 i hi).1,key (h.2 i hi).2⟩⟩
theorem fnOk_vd {W:World}(h:Lib.Utf8Tabs 0 1 W):FnOk Tryz.prog W 70 (fun a σ=>RG.app σ (keepX vdV a)):=by
 refine fnOk_keep fun args v hg=>?_
 unfold vdV at hg
 split at hg<;>first | (cases hg; done) | skip
 rename_i s
 split at hg<;>first | (cases hg; done) | skip
 rename_i hs;obtain rfl:=Option.some.inj hg
 exact ⟨rfl,rfl,fun w hw=>Tryz.utf8_ValidString s w (Nat.le_trans hs (by decide)) (tabs_keep h hw)⟩
theorem fnOk_rp {W:World}:FnOk Tryz.prog W 25 (fun a σ=>RG.app σ (keepX rpV a)):=by
 refine fnOk_keep fun args v hg=>?_
 unfold rpV at hg
 split at hg<;>first | (cases hg; done) | skip
 rename_i s c
 split at hg<;>first | (cases hg; done) | skip
 rename_i hs;obtain ⟨h0,h1,h2⟩:=hs;obtain rfl:=Option.some.inj hg
 refine ⟨rfl,rfl,fun w hw=>?_⟩
 obtain ⟨n,rfl⟩:∃ n:Nat,c=n:=⟨c.toNat,by omega⟩
 have hm:s.size*n<=1000*1000:=Nat.mul_le_mul h2 (by omega)
 rw [Int.toNat_natCast]
 exact Tryz.strings_Repeat s n w (by omega) (by omega)
noncomputable def extX (W:World):ExtL:=fun f args g N=>match f with
 | 13=>toL (keepX awV args)
 | 25=>toL (keepX rpV args)
 | 70=>toL (keepX vdV args)
 | 145=>effD.ans args g N
 | 169=>csX args N
 | 253=>itX args
 | 255=>cfX args
 | _=>none
noncomputable def stX (W:World):AE.Stat:=⟨stOf W,extOfL (extX W)⟩
theorem stX_good (W:World):GoodSt W (stX W):=stOf_good W _
theorem hxX (W:World):∀ f,exA f=false->∀ a σ,(stX W).ext f a σ=none:=fun f h a σ=>by
 have h1:f≠13:=fun e=>by subst e; cases h
 have h2:f≠25:=fun e=>by subst e; cases h
 have h3:f≠70:=fun e=>by subst e; cases h
 have h4:f≠145:=fun e=>by subst e; cases h
 have h5:f≠169:=fun e=>by subst e; cases h
 have h6:f≠253:=fun e=>by subst e; cases h
 have h7:f≠255:=fun e=>by subst e; cases h
 have:extX W f a (hp σ) σ.length=none:=by
  unfold extX
  split<;>first | contradiction | rfl
 simp [stX,extOfL,RL.app,this]
theorem repX (W:World):RepOk (stX W):=⟨hxX W,fun _ _=>rfl,fun _ _=>rfl,fun _ _=>rfl,fun _ _=>rfl⟩
theorem hrX (W:World):∀ a σ,(stX W).ext 25 a σ=RL.app σ (toL (keepX rpV a)):=fun _ _=>rfl
theorem awX_ok (W:World):ConOk Tryz.prog (stX W) 13 aw0C:=aw0C_ok fun C σ vs _ ha=>by
 obtain rfl:vs=[]:=ha.nil_inv;rfl
theorem vdX (W:World):VdOk (stX W):=fun s σ hs=>by
 have e:vdV [.string s]=some (.bool (vdF s)):=if_pos hs;show RL.app σ (toL (keepX vdV [.string s]))=_;unfold keepX;rw [e];rfl
theorem extX_ok {W:World}(hst:GoodSt W stA) (ht:Lib.Utf8Tabs 0 1 W):CallOk Tryz.prog W (stX W).ext:=by
 intro f
 by_cases h1:f=13
 ·subst h1; exact keep_fnL (awake_ok hst)
 by_cases h3:f=25
 ·subst h3;intro args σ v σ' hx;refine fnOk_rp args σ v σ' ?_;have hx:RL.app σ (toL (keepX rpV args))=some (v,σ'):=hx
  rwa [toL_app keepX_keep] at hx
 by_cases h4:f=70
 ·subst h4;intro args σ v σ' hx;refine fnOk_vd ht args σ v σ' ?_;have hx:RL.app σ (toL (keepX vdV args))=some (v,σ'):=hx
  rwa [toL_app keepX_keep] at hx
 by_cases h5:f=145
 ·subst h5; exact eff_ok W
 by_cases h6:f=169
 ·subst h6; exact fnOk_cs follows
 by_cases h7:f=253
 ·subst h7; exact fnOk_it follows
 by_cases h8:f=255
 ·subst h8; exact fnOk_cf follows
 ·intro args σ v σ' hx
  have h:extX W f args (hp σ) σ.length=none:=by
   unfold extX
   split<;>first | contradiction | rfl
  have e:(stX W).ext f args σ=none:=by simp [stX,extOfL,RL.app,h]
  rw [e] at hx;cases hx
theorem bulk_mem {H:Type}{d:DataW H}:∀ {l:List (DataW H)},d∈l->Rows.uptoBulk d<=Rows.uptoBulkAll l
 | x :: l,h=>by
  rw [Rows.uptoBulkAll]
  rcases List.mem_cons.1 h with rfl | h
  ·exact Nat.le_add_right _ _
  ·exact Nat.le_trans (bulk_mem h) (Nat.le_add_left _ _)
theorem bulk_pos {H:Type}(d:DataW H):1<=Rows.uptoBulk d:=by
 cases d<;>(try unfold Rows.uptoBulk)<;>first | exact Nat.le_refl 1 | exact Nat.le_add_left _ _ | skip
 rename_i l
 cases l<;>first | exact Nat.le_add_left _ _ | exact Nat.le_refl 1
theorem bulk_len {H:Type}:∀ (l:List (DataW H)),l.length<=Rows.uptoBulkAll l
 | []=>Nat.zero_le _
 | x :: l=>by
  rw [Rows.uptoBulkAll,List.length_cons];have:=bulk_len l;have:=bulk_pos x;omega
theorem bulkOk {H:Type}:BkOk (H:=H) Rows.uptoBulk :=
 ⟨fun l=>by unfold Rows.uptoBulk; exact Nat.le_add_right _ _,fun l d h=>by rw [Rows.uptoBulk]; exact Nat.le_trans (bulk_mem h) (Nat.le_add_right _ _),
  fun l sp d h=>by rw [Rows.uptoBulk]; have:=bulk_mem h; omega,fun l sp=>by rw [Rows.uptoBulk]; have:=bulk_len l; omega⟩
theorem bulk_le {H:Type}{d:DataW H}{p:List MemPlace}(hb:Rows.uptoBulk d<=1048576):Rows.uptoBulk (d,p).1<=1048576:=hb
def celK:List Kd:=[.str,.int .i64,.int .i64,.int .i64,.int .i64]
def rwsK:Kd:=.sl [.sl celK]
section
variable {d:DV}
theorem sc_int {k:IntKind}(h:HasK 1048576 (.int k) d):Cv d (kv k (numD d)):=by cases h; exact .of rfl
theorem sc_bool (h:HasK 1048576 .bool d):Cv d (bv (boolD d)):=by cases h; exact .of rfl
theorem sc_str (h:HasK 1048576 .str d):Cv d (sv (strD d)):=by cases h; exact .of rfl
theorem row_is (h:HasK 1048576 (.sl celK) d):isRow d:=by
 cases h with
 | sl ks g n hn h =>
  refine ⟨rfl,Nat.le_trans hn (by decide),fun i hi=>?_⟩
  have h0:=h i 0 _ hi rfl;have h1:=h i 1 _ hi rfl;have h2:=h i 2 _ hi rfl;have h3:=h i 3 _ hi rfl;have h4:=h i 4 _ hi rfl
  have e0:∀ {d:DV},HasK 1048576 .str d->d=sv (strD d)/\(strD d).size<=9000000:=fun h=>by
   cases h with
   | str s hs=>exact ⟨rfl,Nat.le_trans hs (by decide)⟩
  have e1:∀ {d:DV},HasK 1048576 (.int .i64) d->d=iv (numD d):=fun h=>by cases h; rfl
  exact ⟨(e0 h0).1,(e0 h0).2,e1 h1,e1 h2,e1 h3,e1 h4⟩
theorem rows_inv (h:HasK 1048576 rwsK d):∃ g n,d=.sl false g 1 n/\n<=1048576/\∀ i,i<n->isRow (g i 0):=by
 unfold rwsK at h
 cases h with
 | sl ks g n hn h=>exact ⟨g,n,rfl,hn,fun i hi=>row_is (h i 0 _ hi rfl)⟩
theorem sc_rows (h:HasK 1048576 rwsK d):Cv d (.sl false (rowsD (fun i=>slT (slG d i 0)) fun i=>rowD (slG d i 0)) 1 (slN d)):=by
 obtain ⟨g,n,rfl,-,hr⟩:=rows_inv h;exact rows_cv hr
theorem rows_ok (h:HasK 1048576 rwsK d):rowsOk (fun i=>rowD (slG d i 0)) (slN d):=by
 obtain ⟨g,n,rfl,hn,hr⟩:=rows_inv h
 exact ⟨Nat.le_trans hn (by decide),fun i hi=>(hr i hi).2.row⟩
theorem sc_tabs (h:HasK 1048576 (.sl [.bool]) d):Cv d (.sl false (tabsD fun i=>boolD (slG d i 0)) 1 (slN d)):=by
 cases h with
 | sl ks g n hn h =>
  refine Cv.sl fun i f hi hf=>?_
  obtain rfl:f=0:=by
   have:f<1:=hf;omega
  exact sc_bool (h i 0 _ hi rfl)
theorem tabs_ok (h:HasK 1048576 (.sl [.bool]) d):slN d<=9000000:=by
 cases h with
 | sl ks g n hn h=>exact Nat.le_trans hn (by decide)
theorem str_ok (h:HasK 1048576 .str d):(strD d).size<=9000000:=by
 cases h with
 | str s hs=>exact Nat.le_trans hs (by decide)
end
def trmK:List Kd:=[.int .i64,.int .i64,rwsK,.int .i64,.int .i64,rwsK,.int .i64,.int .i64,.bool,.int .i64,.int .i64,.bool,.int .i64,.int .i64,.int .i64,.bool,.int .u8,.int .u8,.int .i64,.int .i64,.int .i64,.int .i64,.bool,.bool,.bool,.bool,.bool,.bool,.bool,.bool,.int .u8,.int .u8,.int .i64,.int .i64,.int .i64,.sl [.bool],rwsK,.int .i64,.str,.str,.str,.str]
theorem cvl_of:∀ {ds es:List DV},ds.length=es.length->(∀ i,i<es.length->Cv (ds.getD i .any) (es.getD i .any))->CvL ds es
 | [],[],_,_=>.nil
 | d :: ds,e :: es,hl,h=>.cons (h 0 (Nat.zero_lt_succ _)) (cvl_of (by simpa using hl) fun i hi=>h (i+1) (by simpa using hi))
theorem has_getD {B:Nat}{ks:List Kd}{ds:List DV}(h:∀ (i:Nat) k,ks[i]?=some k->∃ d,ds[i]?=some d/\HasK B k d):∀ (i:Nat) k,ks[i]?=some k->HasK B k (ds.getD i .any):=fun i k hk=>by
 obtain ⟨d,h1,h2⟩:=h i k hk;rw [List.getD_eq_getElem?_getD,h1];exact h2
theorem tm_cv {ds:List DV}(hl:ds.length=42) (hk:∀ (i:Nat) k,trmK[i]?=some k->HasK 1048576 k (ds.getD i .any)):CvL ds (tmOf ds).cells :=
 cvl_of hl fun i hi=>by
  have hi:i<42:=hi
  have hi:i=0\/i=1\/i=2\/i=3\/i=4\/i=5\/i=6\/i=7\/i=8\/i=9\/i=10\/i=11\/i=12\/i=13\/i=14\/i=15\/i=16\/i=17\/i=18\/i=19\/i=20\/i=21\/i=22\/i=23\/i=24\/i=25\/i=26\/i=27\/i=28\/i=29\/i=30\/i=31\/i=32\/i=33\/i=34\/i=35\/i=36\/i=37\/i=38\/i=39\/i=40\/i=41:=by omega
  rcases hi with rfl | rfl | rfl | rfl | rfl | rfl | rfl | rfl | rfl | rfl | rfl | rfl | rfl | rfl | rfl | rfl | rfl | rfl | rfl | rfl | rfl | rfl | rfl | rfl | rfl | rfl | rfl | rfl | rfl | rfl | rfl | rfl | rfl | rfl | rfl | rfl | rfl | rfl | rfl | rfl | rfl | rfl
  ·exact sc_int (hk 0 _ rfl)
  ·exact sc_int (hk 1 _ rfl)
  ·exact sc_rows (hk 2 _ rfl)
  ·exact sc_int (hk 3 _ rfl)
  ·exact sc_int (hk 4 _ rfl)
  ·exact sc_rows (hk 5 _ rfl)
  ·exact sc_int (hk 6 _ rfl)
  ·exact sc_int (hk 7 _ rfl)
  ·exact sc_bool (hk 8 _ rfl)
  ·exact sc_int (hk 9 _ rfl)
  ·exact sc_int (hk 10 _ rfl)
  ·exact sc_bool (hk 11 _ rfl)
  ·exact sc_int (hk 12 _ rfl)
  ·exact sc_int (hk 13 _ rfl)
  ·exact sc_int (hk 14 _ rfl)
  ·exact sc_bool (hk 15 _ rfl)
  ·exact sc_int (hk 16 _ rfl)
  ·exact sc_int (hk 17 _ rfl)
  ·exact sc_int (hk 18 _ rfl)
  ·exact sc_int (hk 19 _ rfl)
  ·exact sc_int (hk 20 _ rfl)
  ·exact sc_int (hk 21 _ rfl)
  ·exact sc_bool (hk 22 _ rfl)
  ·exact sc_bool (hk 23 _ rfl)
  ·exact sc_bool (hk 24 _ rfl)
  ·exact sc_bool (hk 25 _ rfl)
  ·exact sc_bool (hk 26 _ rfl)
  ·exact sc_bool (hk 27 _ rfl)
  ·exact sc_bool (hk 28 _ rfl)
  ·exact sc_bool (hk 29 _ rfl)
  ·exact sc_int (hk 30 _ rfl)
  ·exact sc_int (hk 31 _ rfl)
  ·exact sc_int (hk 32 _ rfl)
  ·exact sc_int (hk 33 _ rfl)
  ·exact sc_int (hk 34 _ rfl)
  ·exact sc_tabs (hk 35 _ rfl)
  ·exact sc_rows (hk 36 _ rfl)
  ·exact sc_int (hk 37 _ rfl)
  ·exact sc_str (hk 38 _ rfl)
  ·exact sc_str (hk 39 _ rfl)
  ·exact sc_str (hk 40 _ rfl)
  ·exact sc_str (hk 41 _ rfl)
theorem tm_ok {ds:List DV}(hk:∀ (i:Nat) k,trmK[i]?=some k->HasK 1048576 k (ds.getD i .any)):(tmOf ds).ok :=
 ⟨rows_ok (hk 2 _ rfl),rows_ok (hk 5 _ rfl),rows_ok (hk 36 _ rfl),tabs_ok (hk 35 _ rfl),str_ok (hk 40 _ rfl),str_ok (hk 41 _ rfl)⟩
theorem trm_kinds:kinds Tryz.prog 8 38=some trmK:=by kernel_rfl
theorem rows_flat {d:DV}(h:HasK 1048576 rwsK d):∀ i,i<slN d->slT (slG d i 0)=false:=fun i hi=>by
 unfold rwsK at h
 cases h with
 | sl ks g n hn h =>
  have:=h i 0 _ hi rfl;show slT (g i 0)=false;generalize g i 0=e at this;cases this;rfl
theorem tm_lz {ds:List DV}(hk:∀ (i:Nat) k,trmK[i]?=some k->HasK 1048576 k (ds.getD i .any)):((tmOf ds).S 38).size<=9000000/\((tmOf ds).S 39).size<=9000000:=⟨str_ok (hk 38 _ rfl),str_ok (hk 39 _ rfl)⟩
theorem tm_low {ds:List DV}(hk:∀ (i:Nat) k,trmK[i]?=some k->HasK 1048576 k (ds.getD i .any)):(tmOf ds).low:=⟨rows_flat (hk 2 _ rfl),rows_flat (hk 5 _ rfl),rows_flat (hk 36 _ rfl)⟩
set_option maxRecDepth 100000 in
theorem open_struct {H:Type}{enc:TypeId×Value->H}{W:World}{b0 n:Nat}{t:TypeId}{fs:Array Field}{ks:List Kd}{v:Value}{d:DataW H}{p:List MemPlace}{r:Reach}(ht:Tryz.prog.underlying t=some (.struct fs)) (hk:kinds Tryz.prog n t=some ks)
  (hv:Value.okWide Tryz.prog W r b0 t v) (h:DataW.Trod enc Tryz.prog W 0 (fun _=>true) true t v d p) (hb:Rows.uptoBulk d<=1048576) :
  ∃ ds w,ds.length=ks.length/\(∀ (i:Nat) k,ks[i]?=some k->HasK 1048576 k (ds.getD i .any))/\(∀ es,CvL ds es->DR (baseC (stX W)) noMu (.agg es) w)/\VR (fun _=>none) w v:=by
 obtain ⟨cs,rfl,-⟩:=Go.WideShapes.okWide_struct ht hv;obtain ⟨fuel,hf⟩:=h;obtain ⟨ds,ws,a1,a2,a3,a4,a5⟩:=opn (B:=1048576) (bk:=Rows.uptoBulk) bulkOk (extOfL (extX W)) n t ks hk fuel (Value.agg cs).cells.toList (d,p) hf (bulk_le hb)
 have a4:cs.size=ks.length:=by simpa [Value.cells] using a4
 have hw:ws.length=cs.size:=by rw [<- a3.1,a1,a4]
 refine ⟨ds,.agg ws.toArray,a1,has_getD a2,fun es he=>?_,?_⟩
 ·have hd:=he.drl a3
  exact .agg _ _ (by simpa using hd.1) fun i d x h1 h2=>hd.2 i d x h1 (by simpa using h2)
 ·refine .agg _ _ (by simpa using hw) fun i u v h1 h2=>?_
  obtain ⟨u',e1,e2⟩:=a5 i v (by simpa [Value.cells] using h2)
  have:u=u':=by
   rw [List.getElem?_toArray,e1] at h1;exact (Option.some.inj h1).symm
  subst this;exact (stV_vr e2 _).1
end Go.Proofs.YtigmkgampfbflaaGreatDoor
namespace Go.Proofs.YtigmkgampfbflaaGreatDoor
open Go Go.AE Go.DE Go.RowKit Go.ChangeShapes Go.Joins
theorem own:ownKnob Tryz.prog.godebug=none:=by kernel_rfl
theorem laidOut:laidOutB Tryz.prog=true:=by kernel_rfl
theorem laidVar_of_mem {P:Program}{W:World}{n:String}{d:DataW Unit}:∀ {l:List (String×DataW Unit)}{ps:List MemPlace},DataW.LaidVars P W l ps->(n,d)∈l ->
  ∃ g t cs fuel p,P.globalNamed n=some g/\(P.globals[g]?).map (·.type)=some t/\W.var? P n=some cs/\DataW.trod (fun _=>()) P W 0 (fun _=>true) false fuel t cs.toList=some (d,p)
 | [],_,_,hm=>by cases hm
 | (n',d') :: l,ps,h,hm=>by
  obtain ⟨g,t,cs,fuel,p,q,hg,ht,hv,hd,hr,_⟩:=h
  rcases List.mem_cons.1 hm with e | hm
  ·cases e;exact ⟨g,t,cs,fuel,p,hg,ht,hv,hd⟩
  ·exact laidVar_of_mem hr hm
theorem tabIs_of_mem {P:Program}{W:World}{name:String}{k:IntKind}{zs:List Int}{l:List (String×DataW Unit)}{g:Nat}{t e:TypeId}{n:Nat}(hm:(name,Lib.tabData k zs)∈l)
  (hg:P.globalNamed name=some g) (hty:(P.globals[g]?).map (·.type)=some t) (ht:P.underlying t=some (.array n e)) (he:P.underlying e=some (.int k)) (hce:P.cellsOf e=1) (hct:P.cellsOf t=n)
  (h:laidMet P l W):Lib.TabIs P W name k zs:=by
 obtain ⟨ps,hv,_⟩:=h;obtain ⟨g',t',cs,fuel,p,hg',ht',hvar,hd⟩:=laidVar_of_mem hv hm;obtain rfl:=Option.some.inj (hg.symm.trans hg');obtain rfl:=Option.some.inj (hty.symm.trans ht');have hc:=Lib.cells_of_tab ht he hce hct hd;unfold Lib.TabIs;rw [hvar];refine congrArg some ?_;cases cs;simp only at hc;rw [hc]
theorem codes_data:Rows.laid_narrator_attr_codes=(Lib.tabData .i64 [1,2,3,4,5,7,8,9]:DataW Unit):=by kernel_rfl
theorem gCodes:Tryz.prog.globalNamed "narrator/attr.codes"=some 3:=by kernel_rfl
set_option maxRecDepth 100000 in
theorem plainL:(Rows.terminalRepliesUptoRow.laid.all fun x=>x.2.handleName?.isNone)=true:=by kernel_rfl
set_option maxRecDepth 100000 in
theorem codesL:Rows.terminalRepliesUptoRow.laid[3]?=some ("narrator/attr.codes",Rows.laid_narrator_attr_codes):=by kernel_rfl
theorem table {W:World}(h:laidMetH Tryz.prog Rows.terminalRepliesUptoRow.laid W):Lib.TabIs Tryz.prog W "narrator/attr.codes" .i64 [1,2,3,4,5,7,8,9]:=by
 rw [MakeChecks.laidMetH_plain _ _ _ plainL] at h;have hm:=List.mem_of_getElem? codesL;rw [codes_data] at hm
 obtain ⟨t,ht⟩:∃ t,(Tryz.prog.globals[3]?).map (·.type)=some t/\(∃ e,Tryz.prog.underlying t=some (.array 8 e)/\Tryz.prog.underlying e=some (.int .i64)/\Tryz.prog.cellsOf e=1)/\Tryz.prog.cellsOf t=8:=by
  refine ⟨((Tryz.prog.globals[3]?).map (·.type)).getD 0,?_,⟨(match Tryz.prog.underlying (((Tryz.prog.globals[3]?).map (·.type)).getD 0) with | some (.array _ e)=>e | _=>0),?_,?_,?_⟩,?_⟩<;>kernel_rfl
 obtain ⟨e,he⟩:=ht.2.1;exact tabIs_of_mem hm (g:=3) gCodes ht.1 he.1 he.2.1 he.2.2 ht.2.2 h
set_option maxRecDepth 100000 in
theorem accL:Rows.terminalRepliesUptoRow.laid[4]?=some ("unicode/utf8.acceptRanges",Rows.laid_unicode_utf8_acceptRanges):=by kernel_rfl
set_option maxRecDepth 100000 in
theorem firL:Rows.terminalRepliesUptoRow.laid[5]?=some ("unicode/utf8.first",Rows.laid_unicode_utf8_first):=by kernel_rfl
theorem acc_data:(Rows.laid_unicode_utf8_acceptRanges:DataW Unit)=Lib.acceptData:=by kernel_rfl
theorem fir_data:Rows.laid_unicode_utf8_first=Lib.firstData:=by kernel_rfl
theorem u8X:U8Extra Tryz.prog Tryz.lays196_ren where
 n3:=by kernel_rfl
 n4:=by kernel_rfl
 y3:=by kernel_rfl
 y4:=by kernel_rfl
 c5:=by kernel_rfl
 c119:=by kernel_rfl
 c138:=by kernel_rfl
theorem utf8_tabs {W:World}(h:laidMetH Tryz.prog Rows.terminalRepliesUptoRow.laid W):Lib.Utf8Tabs 0 1 W:=by
 rw [MakeChecks.laidMetH_plain _ _ _ plainL] at h;have m4:=List.mem_of_getElem? accL;have m5:=List.mem_of_getElem? firL;rw [acc_data] at m4;rw [fir_data] at m5;exact utf8Tabs_of_readsT (.of196 Tryz.lays196) u8X (Lib.laidMet.reads h m5) (Lib.laidMet.reads h m4)
theorem stA_good {W:World}(h:laidMetH Tryz.prog Rows.terminalRepliesUptoRow.laid W):GoodSt W stA:=by
 intro b i v hb;have ht:=table h;unfold Lib.TabIs World.var? at ht;rw [gCodes] at ht;simp only [Option.bind_some] at ht;split at ht
 ·rename_i cs ty fr hw;obtain rfl:=Option.some.inj ht
  have hc:∀ (j:Nat) (u:Value),(#[Value.int .i64 1,.int .i64 2,.int .i64 3,.int .i64 4,.int .i64 5,.int .i64 7,.int .i64 8,.int .i64 9]:Array Value)[j]?=some u->W.cell? ⟨3,j,none⟩=some u:=fun j u hu=>by
   unfold World.cell?;simp only [hw,Option.isSome_none,Bool.false_eq_true,if_false];exact hu
  have key:∃ n:Int,v=.int .i64 n/\W.cell? ⟨b,i,none⟩=some (.int .i64 n):=by
   have hb:stC b i=some v:=hb;unfold stC at hb
   split at hb<;>first | (cases hb; done) | skip
   unfold codesV at hb
   split at hb<;>first | (cases hb; done) | skip
   all_goals
    obtain rfl:=Option.some.inj hb;exact ⟨_,rfl,hc _ _ rfl⟩
  obtain ⟨n,rfl,h2⟩:=key
  exact ⟨_,h2,fun ρ=>.int _ _⟩
 ·cases ht
theorem okWide_u8 {P:Program}{w:World}{r:Reach}{base:Nat}{t:TypeId}{v:Value}(ht:P.underlying t=some (.int .u8)) (h:Value.okWide P w r base t v):∃ n,v=.int .u8 n/\0<=n/\n<256:=by
 obtain ⟨n,rfl⟩:=Go.WideShapes.okWide_int ht h;refine ⟨n,rfl,?_⟩;simp only [Value.okWide,ht,Cell.okWide] at h;simp only [Cell.ok,IntKind.has,ht] at h;obtain ⟨-,h1,h2⟩:=h;have e1:IntKind.u8.min=0:=rfl
 have e2:IntKind.u8.max=255:=by decide
 omega
theorem lz_of {x:Tm}(h:x.ok) (l:x.low) (s1:(x.S 38).size<=9000000) (s2:(x.S 39).size<=9000000):tmLz x.cells:=⟨⟨rfl,h⟩,l,s1,s2⟩
theorem law_calls {H:Type}{enc:TypeId×Value->H}{W:World}{f:FuncId}{fn:Func}{F:ConF}{s:ChangeSpec}{args:Array Value}{ds gs:List (DataW H)}{before:List MemPlace}{dv:List DV}{vs:List Value}
  (hf:Tryz.prog.funcs[f]?=some fn) (hn:(fn.name== "runtime.NumGoroutine")=false) (hb:fn.body.isNone=false) (hres:fn.resultTypes=#[4]) (hread:∀ t∈fn.params.toList,Tryz.prog.readableRec t=true/\t<Tryz.prog.types.size)
  (hW:DataW.Whole enc Tryz.prog fn.params.toList s.vars false W args.toList ds gs before) (hv:s.vars=[]) (hfn:s.fn H (ds++[])={ results:=[.lit (.bool true)],args:=ds })
  (hT:GoodSt W stA) (hU:Lib.Utf8Tabs 0 1 W) {z:Bool}(hF:ConOkZ z Tryz.prog (stX W) f F) (hx:∀ k,k (fun _=>(.v (.bool true),[]))=some ()->F dv k=some ()) (ha:DRL (baseC (stX W)) noMu dv vs) (hvs:VRL (fun _=>none) vs args.toList) :
  Calls Tryz.prog f args W fun e W'=>∃ v,e=.returned v/\s.post enc Tryz.prog fn false true false false W args v W':=by
 have hc:=calls_of_con (w:=W) (stX_good W) (extX_ok hT hU) follows hf hn hb hF hx ha hvs (.refl _ _)
 rw [show args.toList.toArray=args by simp] at hc
 exact hc.mono fun e W' ⟨he,hb'⟩=>⟨_,he,post_true laidOut hread hW hv hfn hres Tryz.underlying4 hb'⟩
set_option maxRecDepth 100000 in
theorem contract (H:Type) (enc:TypeId×Value->H) (W:World) (base:Nat) (args:Array Value) (ds gs:List (DataW H)) (before:List MemPlace)
  (hval:∀ (j:Nat) t v,Tryz.f9.params[j]?=some t->args[j]?=some v->Value.okWide Tryz.prog W .any base t v)
  (hW:DataW.Whole enc Tryz.prog Tryz.f9.params.toList Rows.terminalRepliesSpec.vars false W args.toList ds gs before) (hL:laidMetH Tryz.prog Rows.terminalRepliesUptoRow.laid W) (hB:Rows.uptoSmall H (ds++gs)=true) :
  Calls Tryz.prog 9 args W fun e W'=>∃ v,e=.returned v/\Rows.terminalRepliesSpec.post enc Tryz.prog Tryz.f9 false true false false W args v W':=by
 have hW':=hW;obtain ⟨p,q,hA,hV,rfl,hfz,hnd⟩:=hW;rw [Tryz.params9] at hA hval;obtain ⟨v0,vs0,d0,ds0,p0,q0,hargs,rfl,rfl,h0,r0⟩:=trodAll_cons hA;obtain ⟨v1,vs1,d1,ds1,p1,q1,e1,rfl,rfl,h1,r1⟩:=trodAll_cons r0;subst e1;obtain ⟨rfl,rfl,rfl⟩:=trodAll_nil r1
 obtain rfl:args=#[v0,v1]:=by cases args; simp_all
 have hB':Rows.uptoBulkAll (([d0,d1]:List (DataW H))++gs)<=1048576:=of_decide_eq_true hB
 obtain ⟨ds,w0,l0,k0,dr0,vr0⟩:=open_struct Tryz.underlying38 trm_kinds (hval 0 38 v0 rfl rfl) h0 (Nat.le_trans (bulk_mem (by simp)) hB')
 obtain ⟨n1,rfl,a0,a1⟩:=okWide_u8 Tryz.underlying5 (hval 1 5 v1 rfl rfl);have lz:=tm_lz k0
 refine law_calls (dv:=[.agg (tmOf ds).cells,kv .u8 n1]) Tryz.func9 rfl rfl (by kernel_rfl) ?_ hW' rfl rfl (stA_good hL) (utf8_tabs hL) (la9C_ok (repX W) (vdX W) (hrX W) (awX_ok W))
  (fun k hk=>hT ⟨lz_of (tm_ok k0) (tm_low k0) lz.1 lz.2,a0,a1⟩ hk) (.cons (dr0 _ (tm_cv l0 k0)) (.cons (.v _ rfl) (.nil _ _))) (.cons vr0 (.cons (.int _ _) (.nil _)))
 rw [Tryz.params9];intro t ht
 have ht:t=38\/t=5:=by simpa using ht
 rcases ht with rfl | rfl
 ·exact ⟨by kernel_rfl,by decide +kernel⟩
 ·exact ⟨by kernel_rfl,by decide +kernel⟩
theorem witness_laid {H:Type}{enc:TypeId×Value->H}{os:Os}{f:FuncId}{fn:Func}{s:OpenSpec}{conds:List PathCond}{laid:List (String×DataW Unit)}(args:Array Value)
  (hsh:((World.laidAll Tryz.prog os laid).forCall (fun _ _=>0) ⟨#[],args,[]⟩).Shaped Tryz.prog)
  (hok:Input.okWideB Tryz.prog ((World.laidAll Tryz.prog os laid).forCall (fun _ _=>0) ⟨#[],args,[]⟩) f ⟨#[],args,[]⟩=true)
  (hrow:s.preRow enc Tryz.prog fn conds false laid ((World.laidAll Tryz.prog os laid).forCall (fun _ _=>0) ⟨#[],args,[]⟩).memory args) :
  ∃ (w:World) (tape:Tape) (i:Input),w.os=os/\(w.forCall tape i).Shaped Tryz.prog/\i.vars=[]/\Input.okWide Tryz.prog (w.forCall tape i) .any w.heap.size f i /\
   s.preRow enc Tryz.prog fn conds false laid (w.forCall tape i).memory i.args/\({ modest:=false }:Assume).holds Tryz.prog (lone (Frame.enter Tryz.prog f i.args .normal) [] (w.forCall tape i)) :=
 ⟨World.laidAll Tryz.prog os laid,fun _ _=>0,⟨#[],args,[]⟩,World.laidAll_os _ _ _,hsh,(Input.okWide_of_okWideB (base:=0) hok).1,(Input.okWide_of_okWideB hok).2,hrow,by
  simp only [Assume.holds]
  exact ⟨by simp,by simp,fun _=>Modest.zero,by simp,by simp⟩⟩
def wargs:Array Value:=#[.agg #[.int .i64 0,.int .i64 0,.slice none 0 0,.int .i64 0,.int .i64 0,.slice none 0 0,.int .i64 0,.int .i64 0,.bool false,.int .i64 0,.int .i64 0,.bool false,.int .i64 0,.int .i64 0,.int .i64 0,.bool false,.int .u8 0,.int .u8 0,.int .i64 0,.int .i64 0,.int .i64 0,.int .i64 0,.bool false,.bool false,.bool false,.bool false,.bool false,.bool false,.bool false,.bool false,.int .u8 0,.int .u8 0,.int .i64 0,.int .i64 0,.int .i64 0,.slice none 0 0,.slice none 0 0,.int .i64 0,.string ⟨#[]⟩,.string ⟨#[]⟩,.string ⟨#[]⟩,.string ⟨#[]⟩],.int .u8 0]
set_option maxRecDepth 100000 in
theorem laid_met (os:Os):laidMetH Tryz.prog Rows.terminalRepliesUptoRow.laid ((World.laidAll Tryz.prog os Rows.terminalRepliesUptoRow.laid).forCall (fun _ _=>0) ⟨#[],wargs,[]⟩).memory:=by
 rw [MakeChecks.laidMetH_plain _ _ _ plainL]
 exact laidMet_laidAll _ (by kernel_rfl) (by kernel_rfl)
set_option maxRecDepth 100000 in
theorem shaped (os:Os):((World.laidAll Tryz.prog os Rows.terminalRepliesUptoRow.laid).forCall (fun _ _=>0) ⟨#[],wargs,[]⟩).Shaped Tryz.prog:=World.shaped_of_ZipB (by kernel_rfl) (by kernel_rfl)
set_option maxRecDepth 100000 in
theorem reads (os:Os) {H:Type}(enc:TypeId×Value->H):∃ places,DataW.whole enc Tryz.prog ((World.laidAll Tryz.prog os Rows.terminalRepliesUptoRow.laid).forCall (fun _ _=>0) ⟨#[],wargs,[]⟩).memory Tryz.f9.params.toList Rows.terminalRepliesSpec.vars false wargs.toList 8 =
  some ([.agg [.agg [.lit (.int .i64 0),.lit (.int .i64 0),.nil],.agg [.lit (.int .i64 0),.lit (.int .i64 0),.nil],.agg [.lit (.int .i64 0),.lit (.int .i64 0),.lit (.bool false)],.agg [.agg [.lit (.int .i64 0),.lit (.int .i64 0),.lit (.bool false)],.agg [.lit (.int .i64 0),.lit (.int .i64 0),.lit (.int .i64 0)],.lit (.bool false),.agg [.lit (.int .u8 0),.lit (.int .u8 0)],.lit (.int .i64 0)],.agg [.lit (.int .i64 0),.lit (.int .i64 0),.lit (.int .i64 0)],.agg [.lit (.bool false),.lit (.bool false),.lit (.bool false),.lit (.bool false),.lit (.bool false),.lit (.bool false),.lit (.bool false),.lit (.bool false),.agg [.lit (.int .u8 0),.lit (.int .u8 0)],.lit (.int .i64 0)],.lit (.int .i64 0),.lit (.int .i64 0),.nil,.nil,.agg [.lit (.int .i64 0),.lit (.string []),.lit (.string [])],.lit (.string []),.lit (.string [])],.lit (.int .u8 0)],[],places) :=
 ⟨[],by kernel_rfl⟩
set_option maxRecDepth 100000 in
theorem lifted (os:Os) (started:os.Started) (H:Type) (enc:TypeId×Value->H) (F:Stop.Interp) :
  ReturnsInHanded {} Tryz.checked os 9 .any ((Rows.OpenSpec.upto Rows.terminalRepliesSpec).preRow enc Tryz.prog Tryz.f9 Rows.terminalRepliesUptoRow.domain false Rows.terminalRepliesUptoRow.laid) (((Rows.OpenSpec.upto Rows.terminalRepliesSpec).at F).post enc Tryz.prog Tryz.f9 false true false false):=by
 obtain ⟨places,hx⟩:=reads os enc
 refine returnsInHanded_of_row (C:=Tryz.checked) (s:=Rows.OpenSpec.upto Rows.terminalRepliesSpec) own started (by kernel_rfl) Tryz.func9
  (witness_laid (enc:=enc) wargs (shaped os) (by kernel_rfl) (OpenSpec.preRow_of_cond 8 hx (by kernel_rfl) (fun k hk=>by cases hk; kernel_rfl) (by kernel_rfl) (laid_met os))) ?_
 intro W base args ds gs before hval hW _ hcond _ hL _ _;exact contract H enc W base args ds gs before hval hW hL (hcond _ rfl)
end Go.Proofs.YtigmkgampfbflaaGreatDoor
namespace Go.Proofs.YtigmkgampfbflaaGreatDoor
open Go Go.AE Go.DE Go.RowKit Go.ChangeShapes Go.Joins
theorem fact1:(Rows.terminalRepliesUptoRow.inPlace==Tryz.pinned.checked.prog.inPlace 9)=true:=by kernel_rfl
theorem fact2:(Rows.terminalRepliesUptoRow.unfollowed==Tryz.pinned.checked.prog.unfollowed 9)=true:=by kernel_rfl
theorem fact3:(Rows.terminalRepliesUptoRow.recurses==Tryz.pinned.checked.prog.recurses 9)=true:=by kernel_rfl
theorem fact4:(Rows.terminalRepliesUptoRow.named==Tryz.pinned.checked.prog.varsNamed 9)=true:=by kernel_rfl
theorem closed:joinedFacts Tryz.pinned.checked.prog 9 Tryz.f9 (Rows.OpenSpec.upto Rows.terminalRepliesSpec).bare Rows.terminalRepliesUptoRow=true:=by
 unfold joinedFacts;rw [fact1,fact2,fact3,fact4]
 kernel_rfl
theorem said:Rows.TerminalRepliesUptoSaid :=
 OpenClaim.holds_of_cond 9 Tryz.f9 rfl rfl rfl rfl rfl rfl rfl ⟨rfl,rfl,rfl,rfl,rfl⟩ rfl rfl rfl rfl rfl (by kernel_rfl) Tryz.func9 closed
  (of_decide_eq_true (by kernel_rfl)) (by unfold Func.isWrapper; first | (rw [if_pos (by decide +kernel)]; kernel_rfl) | (rw [if_neg (by decide +kernel)]; exact ⟨rfl,rfl⟩))
  (fun os started H enc _ F=>by rw [OpenClaim.pre_eq_preRow]; exact lifted os started H enc F)
theorem plain (f:FuncId) (fn:Func) (hf:Tryz.pinned.checked.prog.funcNamed "narrator/narratorlaw13.TerminalReplies"=some f) (hfn:Tryz.pinned.checked.prog.funcs[f]?=some fn) :
  false=Tryz.pinned.checked.prog.looks []/\∀ (j:Nat) t,fn.params[j]?=some t->Tryz.pinned.checked.prog.wantsStandIn t=false:=by
 obtain rfl:f=9:=Option.some.inj ((show Tryz.prog.funcNamed "narrator/narratorlaw13.TerminalReplies"=some 9 by kernel_rfl).symm.trans hf) |>.symm
 obtain rfl:fn=Tryz.f9:=(Option.some.inj (Tryz.func9.symm.trans hfn)).symm
 refine ⟨by kernel_rfl,fun j t ht=>?_⟩
 rw [Tryz.params9] at ht
 have ht:t=38\/t=5:=by simpa using Array.mem_of_getElem? ht
 rcases ht with rfl | rfl
 ·show Tryz.prog.wantsStandIn _=false
  kernel_rfl
 ·show Tryz.prog.wantsStandIn _=false
  kernel_rfl
theorem card:Rows.TerminalRepliesUptoCardSaid :=
 Claim7.holds_tied_plain_at .later [] _ _ _ _ said (fun _ h=>by cases h) (by kernel_rfl) (fun _ h=>by cases h) terminalRepliesUpto_row_tie rfl ⟨rfl,rfl⟩ (by kernel_rfl) rfl plain (by kernel_rfl)
#print axioms card
end Go.Proofs.YtigmkgampfbflaaGreatDoor
