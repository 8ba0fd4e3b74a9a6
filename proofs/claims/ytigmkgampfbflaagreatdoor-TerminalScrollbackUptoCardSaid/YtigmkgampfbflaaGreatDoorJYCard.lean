/-
 'narratorlaw13.TerminalScrollback': for every height and all lines the law answers true and leaves the input as it was.
 Conditions: the row's own (what is read is of bulk at most 1048576),and that the listed tables hold what it lists.
-/
import Derived.Test.YtigmkgampfbflaaGreatDoorJSl
import Derived.Lib.LaidU8T
namespace Go.Proofs.YtigmkgampfbflaaGreatDoor
open Go Go.AE Go.DE Go.RowKit Go.ChangeShapes Go.Joins
theorem own:ownKnob Tryz.prog.godebug=none:=by kernel_rfl
theorem laidOut:laidOutB Tryz.prog=true:=by kernel_rfl
theorem laidVar_of_mem {P:Program}{W:World}{n:String}{d:DataW Unit}:∀ {l:List (String×DataW Unit)}{ps:List MemPlace},DataW.LaidVars P W l ps->(n,d)∈l ->
  ∃ g t cs fuel p,P.globalNamed n=some g/\(P.globals[g]?).map (·.type)=some t/\W.var? P n=some cs/\DataW.trod (fun _=>()) P W 0 (fun _=>true) false fuel t cs.toList=some (d,p)
 | [],_,_,hm=>by cases hm
 | (n',d') :: l,ps,h,hm=>by
  obtain ⟨g,t,cs,fuel,p,q,hg,ht,hv,hd,hr,_⟩:=h
  rcases List.mem_cons.1 hm with e | hm
  ·cases e;exact ⟨g,t,cs,fuel,p,hg,ht,hv,hd⟩
  ·exact laidVar_of_mem hr hm
theorem tabIs_of_mem {P:Program}{W:World}{name:String}{k:IntKind}{zs:List Int}{l:List (String×DataW Unit)}{g:Nat}{t e:TypeId}{n:Nat}(hm:(name,Lib.tabData k zs)∈l)
  (hg:P.globalNamed name=some g) (hty:(P.globals[g]?).map (·.type)=some t) (ht:P.underlying t=some (.array n e)) (he:P.underlying e=some (.int k)) (hce:P.cellsOf e=1) (hct:P.cellsOf t=n)
  (h:laidMet P l W):Lib.TabIs P W name k zs:=by
 obtain ⟨ps,hv,_⟩:=h;obtain ⟨g',t',cs,fuel,p,hg',ht',hvar,hd⟩:=laidVar_of_mem hv hm;obtain rfl:=Option.some.inj (hg.symm.trans hg');obtain rfl:=Option.some.inj (hty.symm.trans ht');have hc:=Lib.cells_of_tab ht he hce hct hd;unfold Lib.TabIs;rw [hvar];refine congrArg some ?_;cases cs;simp only at hc;rw [hc]
theorem codes_data:Rows.laid_narrator_attr_codes=(Lib.tabData .i64 [1,2,3,4,5,7,8,9]:DataW Unit):=by kernel_rfl
theorem gCodes:Tryz.prog.globalNamed "narrator/attr.codes"=some 3:=by kernel_rfl
set_option maxRecDepth 100000 in
theorem plainL:(Rows.terminalScrollbackUptoRow.laid.all fun x=>x.2.handleName?.isNone)=true:=by kernel_rfl
set_option maxRecDepth 100000 in
theorem codesL:Rows.terminalScrollbackUptoRow.laid[3]?=some ("narrator/attr.codes",Rows.laid_narrator_attr_codes):=by kernel_rfl
theorem table {W:World}(h:laidMetH Tryz.prog Rows.terminalScrollbackUptoRow.laid W):Lib.TabIs Tryz.prog W "narrator/attr.codes" .i64 [1,2,3,4,5,7,8,9]:=by
 rw [MakeChecks.laidMetH_plain _ _ _ plainL] at h;have hm:=List.mem_of_getElem? codesL;rw [codes_data] at hm
 obtain ⟨t,ht⟩:∃ t,(Tryz.prog.globals[3]?).map (·.type)=some t/\(∃ e,Tryz.prog.underlying t=some (.array 8 e)/\Tryz.prog.underlying e=some (.int .i64)/\Tryz.prog.cellsOf e=1)/\Tryz.prog.cellsOf t=8:=by
  refine ⟨((Tryz.prog.globals[3]?).map (·.type)).getD 0,?_,⟨(match Tryz.prog.underlying (((Tryz.prog.globals[3]?).map (·.type)).getD 0) with | some (.array _ e)=>e | _=>0),?_,?_,?_⟩,?_⟩<;>kernel_rfl
 obtain ⟨e,he⟩:=ht.2.1;exact tabIs_of_mem hm (g:=3) gCodes ht.1 he.1 he.2.1 he.2.2 ht.2.2 h
set_option maxRecDepth 100000 in
theorem accL:Rows.terminalScrollbackUptoRow.laid[4]?=some ("unicode/utf8.acceptRanges",Rows.laid_unicode_utf8_acceptRanges):=by kernel_rfl
set_option maxRecDepth 100000 in
theorem firL:Rows.terminalScrollbackUptoRow.laid[5]?=some ("unicode/utf8.first",Rows.laid_unicode_utf8_first):=by kernel_rfl
theorem acc_data:(Rows.laid_unicode_utf8_acceptRanges:DataW Unit)=Lib.acceptData:=by kernel_rfl
theorem fir_data:Rows.laid_unicode_utf8_first=Lib.firstData:=by kernel_rfl
theorem u8X:U8Extra Tryz.prog Tryz.lays196_ren where
 n3:=by kernel_rfl
 n4:=by kernel_rfl
 y3:=by kernel_rfl
 y4:=by kernel_rfl
 c5:=by kernel_rfl
 c119:=by kernel_rfl
 c138:=by kernel_rfl
theorem utf8_tabs {W:World}(h:laidMetH Tryz.prog Rows.terminalScrollbackUptoRow.laid W):Lib.Utf8Tabs 0 1 W:=by
 rw [MakeChecks.laidMetH_plain _ _ _ plainL] at h;have m4:=List.mem_of_getElem? accL;have m5:=List.mem_of_getElem? firL;rw [acc_data] at m4;rw [fir_data] at m5;exact utf8Tabs_of_readsT (.of196 Tryz.lays196) u8X (Lib.laidMet.reads h m5) (Lib.laidMet.reads h m4)
theorem stA_good {W:World}(h:laidMetH Tryz.prog Rows.terminalScrollbackUptoRow.laid W):GoodSt W stA:=by
 intro b i v hb;have ht:=table h;unfold Lib.TabIs World.var? at ht;rw [gCodes] at ht;simp only [Option.bind_some] at ht;split at ht
 ·rename_i cs ty fr hw;obtain rfl:=Option.some.inj ht
  have hc:∀ (j:Nat) (u:Value),(#[Value.int .i64 1,.int .i64 2,.int .i64 3,.int .i64 4,.int .i64 5,.int .i64 7,.int .i64 8,.int .i64 9]:Array Value)[j]?=some u->W.cell? ⟨3,j,none⟩=some u:=fun j u hu=>by
   unfold World.cell?;simp only [hw,Option.isSome_none,Bool.false_eq_true,if_false];exact hu
  have key:∃ n:Int,v=.int .i64 n/\W.cell? ⟨b,i,none⟩=some (.int .i64 n):=by
   have hb:stC b i=some v:=hb;unfold stC at hb
   split at hb<;>first | (cases hb; done) | skip
   unfold codesV at hb
   split at hb<;>first | (cases hb; done) | skip
   all_goals
    obtain rfl:=Option.some.inj hb;exact ⟨_,rfl,hc _ _ rfl⟩
  obtain ⟨n,rfl,h2⟩:=key
  exact ⟨_,h2,fun ρ=>.int _ _⟩
 ·cases ht
theorem okWide_u8 {P:Program}{w:World}{r:Reach}{base:Nat}{t:TypeId}{v:Value}(ht:P.underlying t=some (.int .u8)) (h:Value.okWide P w r base t v):∃ n,v=.int .u8 n/\0<=n/\n<256:=by
 obtain ⟨n,rfl⟩:=Go.WideShapes.okWide_int ht h;refine ⟨n,rfl,?_⟩;simp only [Value.okWide,ht,Cell.okWide] at h;simp only [Cell.ok,IntKind.has,ht] at h;obtain ⟨-,h1,h2⟩:=h;have e1:IntKind.u8.min=0:=rfl
 have e2:IntKind.u8.max=255:=by decide
 omega
theorem law_calls {H:Type}{enc:TypeId×Value->H}{W:World}{f:FuncId}{fn:Func}{F:ConF}{s:ChangeSpec}{args:Array Value}{ds gs:List (DataW H)}{before:List MemPlace}{dv:List DV}{vs:List Value}
  (hf:Tryz.prog.funcs[f]?=some fn) (hn:(fn.name== "runtime.NumGoroutine")=false) (hb:fn.body.isNone=false) (hres:fn.resultTypes=#[4]) (hread:∀ t∈fn.params.toList,Tryz.prog.readableRec t=true/\t<Tryz.prog.types.size)
  (hW:DataW.Whole enc Tryz.prog fn.params.toList s.vars false W args.toList ds gs before) (hv:s.vars=[]) (hfn:s.fn H (ds++[])={ results:=[.lit (.bool true)],args:=ds })
  (hT:GoodSt W stA) (hU:Lib.Utf8Tabs 0 1 W) {z:Bool}(hF:ConOkZ z Tryz.prog (stX W) f F) (hx:∀ k,k (fun _=>(.v (.bool true),[]))=some ()->F dv k=some ()) (ha:DRL (baseC (stX W)) noMu dv vs) (hvs:VRL (fun _=>none) vs args.toList) :
  Calls Tryz.prog f args W fun e W'=>∃ v,e=.returned v/\s.post enc Tryz.prog fn false true false false W args v W':=by
 have hc:=calls_of_con (w:=W) (stX_good W) (extX_ok hT hU) follows hf hn hb hF hx ha hvs (.refl _ _)
 rw [show args.toList.toArray=args by simp] at hc
 exact hc.mono fun e W' ⟨he,hb'⟩=>⟨_,he,post_true laidOut hread hW hv hfn hres Tryz.underlying4 hb'⟩
theorem str_kinds:kinds Tryz.prog 8 60=some [.sl [.str]]:=by kernel_rfl
set_option maxRecDepth 100000 in
theorem contract (H:Type) (enc:TypeId×Value->H) (W:World) (base:Nat) (args:Array Value) (ds gs:List (DataW H)) (before:List MemPlace)
  (hval:∀ (j:Nat) t v,Tryz.f8.params[j]?=some t->args[j]?=some v->Value.okWide Tryz.prog W .any base t v)
  (hW:DataW.Whole enc Tryz.prog Tryz.f8.params.toList Rows.terminalScrollbackSpec.vars false W args.toList ds gs before) (hL:laidMetH Tryz.prog Rows.terminalScrollbackUptoRow.laid W) (hB:Rows.uptoSmall H (ds++gs)=true) :
  Calls Tryz.prog 8 args W fun e W'=>∃ v,e=.returned v/\Rows.terminalScrollbackSpec.post enc Tryz.prog Tryz.f8 false true false false W args v W':=by
 have hW':=hW;obtain ⟨p,q,hA,hV,rfl,hfz,hnd⟩:=hW;rw [Tryz.params8] at hA hval;obtain ⟨v0,vs0,d0,ds0,p0,q0,hargs,rfl,rfl,h0,r0⟩:=trodAll_cons hA;obtain ⟨v1,vs1,d1,ds1,p1,q1,e1,rfl,rfl,h1,r1⟩:=trodAll_cons r0;subst e1;obtain ⟨rfl,rfl,rfl⟩:=trodAll_nil r1
 obtain rfl:args=#[v0,v1]:=by cases args; simp_all
 have hB':Rows.uptoBulkAll (([d0,d1]:List (DataW H))++gs)<=1048576:=of_decide_eq_true hB;obtain ⟨n0,rfl,a0,a1⟩:=okWide_u8 Tryz.underlying5 (hval 0 5 v0 rfl rfl)
 obtain ⟨g,m,w,hk,dr1,vr1⟩:=open_slc Tryz.underlying60 str_kinds (hval 1 60 v1 rfl rfl) h1 (Nat.le_trans (bulk_mem (by simp)) hB')
 have hq:slQ n0 g m:=by
  cases hk with
  | sl ks g m hn hh =>
   refine ⟨a0,a1,Nat.le_trans hn (by decide),fun i hi=>?_⟩
   have:=hh i 0 _ hi rfl;generalize g i 0=e at this
   cases this with
   | str s hs=>exact ⟨rfl,Nat.le_trans hs (by decide)⟩
 refine law_calls (dv:=[kv .u8 n0,.sl false g 1 m]) Tryz.func8 rfl rfl (by kernel_rfl) ?_ hW' rfl rfl (stA_good hL) (utf8_tabs hL) (la8C_ok (hxX W) (vdX W) (hkX W) (htX W) (hrX W) (awX_ok W))
  (fun k hk=>hT hq hk) (.cons (.v _ rfl) (.cons dr1 (.nil _ _))) (.cons (.int _ _) (.cons vr1 (.nil _)))
 rw [Tryz.params8];intro t ht
 have ht:t=5\/t=60:=by simpa using ht
 rcases ht with rfl | rfl
 ·exact ⟨by kernel_rfl,by decide +kernel⟩
 ·exact ⟨by kernel_rfl,by decide +kernel⟩
theorem witness_laid {H:Type}{enc:TypeId×Value->H}{os:Os}{f:FuncId}{fn:Func}{s:OpenSpec}{conds:List PathCond}{laid:List (String×DataW Unit)}(args:Array Value)
  (hsh:((World.laidAll Tryz.prog os laid).forCall (fun _ _=>0) ⟨#[],args,[]⟩).Shaped Tryz.prog)
  (hok:Input.okWideB Tryz.prog ((World.laidAll Tryz.prog os laid).forCall (fun _ _=>0) ⟨#[],args,[]⟩) f ⟨#[],args,[]⟩=true)
  (hrow:s.preRow enc Tryz.prog fn conds false laid ((World.laidAll Tryz.prog os laid).forCall (fun _ _=>0) ⟨#[],args,[]⟩).memory args) :
  ∃ (w:World) (tape:Tape) (i:Input),w.os=os/\(w.forCall tape i).Shaped Tryz.prog/\i.vars=[]/\Input.okWide Tryz.prog (w.forCall tape i) .any w.heap.size f i /\
   s.preRow enc Tryz.prog fn conds false laid (w.forCall tape i).memory i.args/\({ modest:=false }:Assume).holds Tryz.prog (lone (Frame.enter Tryz.prog f i.args .normal) [] (w.forCall tape i)) :=
 ⟨World.laidAll Tryz.prog os laid,fun _ _=>0,⟨#[],args,[]⟩,World.laidAll_os _ _ _,hsh,(Input.okWide_of_okWideB (base:=0) hok).1,(Input.okWide_of_okWideB hok).2,hrow,by
  simp only [Assume.holds]
  exact ⟨by simp,by simp,fun _=>Modest.zero,by simp,by simp⟩⟩
def wargs:Array Value:=#[.int .u8 0,.slice none 0 0]
set_option maxRecDepth 100000 in
theorem laid_met (os:Os):laidMetH Tryz.prog Rows.terminalScrollbackUptoRow.laid ((World.laidAll Tryz.prog os Rows.terminalScrollbackUptoRow.laid).forCall (fun _ _=>0) ⟨#[],wargs,[]⟩).memory:=by
 rw [MakeChecks.laidMetH_plain _ _ _ plainL]
 exact laidMet_laidAll _ (by kernel_rfl) (by kernel_rfl)
set_option maxRecDepth 100000 in
theorem shaped (os:Os):((World.laidAll Tryz.prog os Rows.terminalScrollbackUptoRow.laid).forCall (fun _ _=>0) ⟨#[],wargs,[]⟩).Shaped Tryz.prog:=World.shaped_of_ZipB (by kernel_rfl) (by kernel_rfl)
set_option maxRecDepth 100000 in
theorem reads (os:Os) {H:Type}(enc:TypeId×Value->H):∃ places,DataW.whole enc Tryz.prog ((World.laidAll Tryz.prog os Rows.terminalScrollbackUptoRow.laid).forCall (fun _ _=>0) ⟨#[],wargs,[]⟩).memory Tryz.f8.params.toList Rows.terminalScrollbackSpec.vars false wargs.toList 8 =
  some ([.lit (.int .u8 0),.nil],[],places) :=
 ⟨[],by kernel_rfl⟩
set_option maxRecDepth 100000 in
theorem lifted (os:Os) (started:os.Started) (H:Type) (enc:TypeId×Value->H) (F:Stop.Interp) :
  ReturnsInHanded {} Tryz.checked os 8 .any ((Rows.OpenSpec.upto Rows.terminalScrollbackSpec).preRow enc Tryz.prog Tryz.f8 Rows.terminalScrollbackUptoRow.domain false Rows.terminalScrollbackUptoRow.laid) (((Rows.OpenSpec.upto Rows.terminalScrollbackSpec).at F).post enc Tryz.prog Tryz.f8 false true false false):=by
 obtain ⟨places,hx⟩:=reads os enc
 refine returnsInHanded_of_row (C:=Tryz.checked) (s:=Rows.OpenSpec.upto Rows.terminalScrollbackSpec) own started (by kernel_rfl) Tryz.func8
  (witness_laid (enc:=enc) wargs (shaped os) (by kernel_rfl) (OpenSpec.preRow_of_cond 8 hx (by kernel_rfl) (fun k hk=>by cases hk; kernel_rfl) (by kernel_rfl) (laid_met os))) ?_
 intro W base args ds gs before hval hW _ hcond _ hL _ _;exact contract H enc W base args ds gs before hval hW hL (hcond _ rfl)
end Go.Proofs.YtigmkgampfbflaaGreatDoor
namespace Go.Proofs.YtigmkgampfbflaaGreatDoor
open Go Go.AE Go.DE Go.RowKit Go.ChangeShapes Go.Joins
theorem fact1:(Rows.terminalScrollbackUptoRow.inPlace==Tryz.pinned.checked.prog.inPlace 8)=true:=by kernel_rfl
theorem fact2:(Rows.terminalScrollbackUptoRow.unfollowed==Tryz.pinned.checked.prog.unfollowed 8)=true:=by kernel_rfl
theorem fact3:(Rows.terminalScrollbackUptoRow.recurses==Tryz.pinned.checked.prog.recurses 8)=true:=by kernel_rfl
theorem fact4:(Rows.terminalScrollbackUptoRow.named==Tryz.pinned.checked.prog.varsNamed 8)=true:=by kernel_rfl
theorem closed:joinedFacts Tryz.pinned.checked.prog 8 Tryz.f8 (Rows.OpenSpec.upto Rows.terminalScrollbackSpec).bare Rows.terminalScrollbackUptoRow=true:=by
 unfold joinedFacts;rw [fact1,fact2,fact3,fact4]
 kernel_rfl
theorem said:Rows.TerminalScrollbackUptoSaid :=
 OpenClaim.holds_of_cond 8 Tryz.f8 rfl rfl rfl rfl rfl rfl rfl ⟨rfl,rfl,rfl,rfl,rfl⟩ rfl rfl rfl rfl rfl (by kernel_rfl) Tryz.func8 closed
  (of_decide_eq_true (by kernel_rfl)) (by unfold Func.isWrapper; first | (rw [if_pos (by decide +kernel)]; kernel_rfl) | (rw [if_neg (by decide +kernel)]; exact ⟨rfl,rfl⟩))
  (fun os started H enc _ F=>by rw [OpenClaim.pre_eq_preRow]; exact lifted os started H enc F)
theorem plain (f:FuncId) (fn:Func) (hf:Tryz.pinned.checked.prog.funcNamed "narrator/narratorlaw13.TerminalScrollback"=some f) (hfn:Tryz.pinned.checked.prog.funcs[f]?=some fn) :
  false=Tryz.pinned.checked.prog.looks []/\∀ (j:Nat) t,fn.params[j]?=some t->Tryz.pinned.checked.prog.wantsStandIn t=false:=by
 obtain rfl:f=8:=Option.some.inj ((show Tryz.prog.funcNamed "narrator/narratorlaw13.TerminalScrollback"=some 8 by kernel_rfl).symm.trans hf) |>.symm
 obtain rfl:fn=Tryz.f8:=(Option.some.inj (Tryz.func8.symm.trans hfn)).symm
 refine ⟨by kernel_rfl,fun j t ht=>?_⟩
 rw [Tryz.params8] at ht
 have ht:t=5\/t=60:=by simpa using Array.mem_of_getElem? ht
 rcases ht with rfl | rfl
 ·show Tryz.prog.wantsStandIn _=false
  kernel_rfl
 ·show Tryz.prog.wantsStandIn _=false
  kernel_rfl
theorem card:Rows.TerminalScrollbackUptoCardSaid :=
 Claim7.holds_tied_plain_at .later [] _ _ _ _ said (fun _ h=>by cases h) (by kernel_rfl) (fun _ h=>by cases h) terminalScrollbackUpto_row_tie rfl ⟨rfl,rfl⟩ (by kernel_rfl) rfl plain (by kernel_rfl)
#print axioms card
end Go.Proofs.YtigmkgampfbflaaGreatDoor
