import Derived.Test.YtannhfnpigiggaaGreatDoorPl47
import Derived.Laws.EntriesVeiled
import Derived.Deep.WholeRow
namespace Go.Proofs.YtannhfnpigiggaaGreatDoor
set_option linter.unusedSimpArgs false
set_option linter.unusedVariables false
open Go.RowKit
open Go.Lib (decDigits)
attribute [local go_sem ↓] wp_ta
attribute [local go_sem] run_store
abbrev AuZ:Array Value:=#[.string ⟨#[]⟩,.int .u8 0,.int .u8 0,.int .u8 0,.int .u8 0,.int .u8 0,.int .u8 0,.int .u8 0,.int .u8 0,.int .u8 0,.int .u8 0,.int .u8 0,.int .u8 0,.int .u8 0,.int .u8 0,.int .u8 0,.int .u8 0]
set_option maxHeartbeats 8000000 in
set_option maxRecDepth 100000 in
theorem pr_either{w:World}(A:Option Addr)(n c:Nat)(l:List Cond)(h:Calls Tryz.prog 86 #[.slice A n c,.string ⟨#[32,111,114,32]⟩,.bool false] w (StP (printOr l) w)):Calls Tryz.prog 53 #[.iface 155 (.slice A n c)] w (StP (printOr l) w):=by
 obtain⟨oeither,eeither⟩:=ta_of (f:=79) (t:=155) (v:=(.iface 155 (.slice A n c))) (u:=.tuple #[.slice A n c,.bool true]) (fun w=>by kernel_rfl)
 have HP:=Lib.hid h
 unfold StP at HP
 clear h
 go_enter Tryz.func53,Tryz.ntmps53
 go_wp2_with ((go_at_call 86;(with_reducible refine HP.out.mono ?_);rintro e w2 ⟨rfl,hb2⟩;have HB2:=Lib.hid hb2;clear hb2))
 go_ret
 exact⟨rfl,HB2.out⟩
set_option maxHeartbeats 8000000 in
set_option maxRecDepth 100000 in
theorem pr_both{w:World}(A:Option Addr)(n c:Nat)(l:List Cond)(h:Calls Tryz.prog 86 #[.slice A n c,.string ⟨#[32,97,110,100,32]⟩,.bool true] w (StP (printAnd l) w)):Calls Tryz.prog 53 #[.iface 157 (.slice A n c)] w (StP (printAnd l) w):=by
 obtain⟨oeither,eeither⟩:=ta_of (f:=79) (t:=155) (v:=(.iface 157 (.slice A n c))) (u:=.tuple #[.slice none 0 0,.bool false]) (fun w=>by kernel_rfl)
 obtain⟨oboth,eboth⟩:=ta_of (f:=79) (t:=157) (v:=(.iface 157 (.slice A n c))) (u:=.tuple #[.slice A n c,.bool true]) (fun w=>by kernel_rfl)
 have HP:=Lib.hid h
 unfold StP at HP
 clear h
 go_enter Tryz.func53,Tryz.ntmps53
 go_wp2_with ((go_at_call 86;(with_reducible refine HP.out.mono ?_);rintro e w2 ⟨rfl,hb2⟩;have HB2:=Lib.hid hb2;clear hb2))
 go_ret
 exact⟨rfl,HB2.out⟩
set_option maxHeartbeats 8000000 in
set_option maxRecDepth 100000 in
theorem pr_neg_par{w:World}{T:TypeId}{y:Value}{s:Bs}{p q:Bool}(he:∃u,∀w,(Instr.typeAssert (.iface T y) 79 155 true).run Tryz.prog w=.ok (.tuple #[u,.bool p]) w)(hb:∃u,∀w,(Instr.typeAssert (.iface T y) 79 157 true).run Tryz.prog w=.ok (.tuple #[u,.bool q]) w)(hq:(p || q)=true)
  (hs:s.length<=3000000) (h:∀wx,Below w.heap.size w wx->Calls Tryz.prog 53 #[.iface T y] wx (StP s wx)):Calls Tryz.prog 53 #[.iface 159 (.agg #[.iface T y])] w (StP (wNot++([32,40]++(s ++ [41]))) w):=by
 obtain⟨oeither,eeither⟩:=ta_of (f:=79) (t:=155) (v:=(.iface 159 (.agg #[.iface T y]))) (u:=.tuple #[.slice none 0 0,.bool false]) (fun w=>by kernel_rfl)
 obtain⟨oboth,eboth⟩:=ta_of (f:=79) (t:=157) (v:=(.iface 159 (.agg #[.iface T y]))) (u:=.tuple #[.slice none 0 0,.bool false]) (fun w=>by kernel_rfl)
 obtain⟨onegation,enegation⟩:=ta_of (f:=79) (t:=159) (v:=(.iface 159 (.agg #[.iface T y]))) (u:=.tuple #[.agg #[.iface T y],.bool true]) (fun w=>by kernel_rfl)
 obtain⟨ue,he⟩:=he
 obtain⟨ub,hbo⟩:=hb
 obtain⟨o1,e1⟩:=ta_of he
 obtain⟨o2,e2⟩:=ta_of hbo
 have HP:=Lib.hid h
 unfold StP at HP
 have HV:=Lib.hid (show((⟨#[110,111,116,32,40]⟩:ByteArray)++ofL s)++⟨#[41]⟩=ofL (wNot++([32,40]++(s ++ [41]))) from by
  show(ofL [110,111,116,32,40]++ofL s)++ofL [41]=_
  rw[ofL_append,ofL_append];congr 1)
 obtain⟨S,hS⟩:∃S,ofL s=S:=⟨_,rfl⟩
 have hSz:S.size<=3000000:=by rw[<-hS,ofL_size];exact hs
 rw[hS]at HP HV
 have HB1:=Lib.hid (alloc_bel w (.cells #[.iface T y] 159))
 clear h he hbo hS hs
 rcases p with _|_<;>rcases q with _|_<;>first|(exfalso;revert hq;decide)|skip
 all_goals
  clear hq
  go_enter Tryz.func53,Tryz.ntmps53
  go_wp2_with ((go_at_call 53;(with_reducible refine(HP.out _ HB1.out).mono ?_);rintro e w2 ⟨rfl,hb2⟩;have HB2:=Lib.hid (HB1.out.trans (hb2.mono HB1.out.size));clear hb2))
  go_ret
  exact⟨congrArg (fun x=>Ending.returned (Value.string x)) HV.out,HB2.out⟩
set_option maxHeartbeats 8000000 in
set_option maxRecDepth 100000 in
theorem pr_neg_no{w:World}{T:TypeId}{y:Value}{s:Bs}{p q:Bool}(he:∃u,∀w,(Instr.typeAssert (.iface T y) 79 155 true).run Tryz.prog w=.ok (.tuple #[u,.bool p]) w)(hb:∃u,∀w,(Instr.typeAssert (.iface T y) 79 157 true).run Tryz.prog w=.ok (.tuple #[u,.bool q]) w)(hq:(p || q)=false)
  (hs:s.length<=3000000) (h:∀wx,Below w.heap.size w wx->Calls Tryz.prog 53 #[.iface T y] wx (StP s wx)):Calls Tryz.prog 53 #[.iface 159 (.agg #[.iface T y])] w (StP (wNot++(32::s)) w):=by
 obtain⟨oeither,eeither⟩:=ta_of (f:=79) (t:=155) (v:=(.iface 159 (.agg #[.iface T y]))) (u:=.tuple #[.slice none 0 0,.bool false]) (fun w=>by kernel_rfl)
 obtain⟨oboth,eboth⟩:=ta_of (f:=79) (t:=157) (v:=(.iface 159 (.agg #[.iface T y]))) (u:=.tuple #[.slice none 0 0,.bool false]) (fun w=>by kernel_rfl)
 obtain⟨onegation,enegation⟩:=ta_of (f:=79) (t:=159) (v:=(.iface 159 (.agg #[.iface T y]))) (u:=.tuple #[.agg #[.iface T y],.bool true]) (fun w=>by kernel_rfl)
 obtain⟨ue,he⟩:=he
 obtain⟨ub,hbo⟩:=hb
 obtain⟨o1,e1⟩:=ta_of he
 obtain⟨o2,e2⟩:=ta_of hbo
 have HP:=Lib.hid h
 unfold StP at HP
 have HV:=Lib.hid (show(⟨#[110,111,116,32]⟩:ByteArray)++ofL s=ofL (wNot++(32::s)) from by
  show ofL [110,111,116,32]++ofL s=_
  rw[ofL_append];congr 1)
 obtain⟨S,hS⟩:∃S,ofL s=S:=⟨_,rfl⟩
 have hSz:S.size<=3000000:=by rw[<-hS,ofL_size];exact hs
 rw[hS]at HP HV
 have HB1:=Lib.hid (alloc_bel w (.cells #[.iface T y] 159))
 clear h he hbo hS hs
 rcases p with _|_<;>rcases q with _|_<;>first|(exfalso;revert hq;decide)|skip
 all_goals
  clear hq
  go_enter Tryz.func53,Tryz.ntmps53
  go_wp2_with ((go_at_call 53;(with_reducible refine(HP.out _ HB1.out).mono ?_);rintro e w2 ⟨rfl,hb2⟩;have HB2:=Lib.hid (HB1.out.trans (hb2.mono HB1.out.size));clear hb2))
  go_ret
  exact⟨congrArg (fun x=>Ending.returned (Value.string x)) HV.out,HB2.out⟩
set_option maxHeartbeats 8000000 in
set_option maxRecDepth 100000 in
theorem pr_auth{w:World}{t:Bs}(ht:t.length<=1000000)(hl:(unhexL t).length=16)(hsh:w.ShapedOpen Tryz.prog):Calls Tryz.prog 53 #[.iface 167 (.agg (.string (ofL t)::byV (unhexL t)).toArray)] w (StP (printF (.auth t)) w):=by
 obtain⟨oeither,eeither⟩:=ta_of (f:=79) (t:=155) (v:=(.iface 167 (.agg (.string (ofL t)::byV (unhexL t)).toArray))) (u:=.tuple #[.slice none 0 0,.bool false]) (fun w=>by kernel_rfl)
 obtain⟨oboth,eboth⟩:=ta_of (f:=79) (t:=157) (v:=(.iface 167 (.agg (.string (ofL t)::byV (unhexL t)).toArray))) (u:=.tuple #[.slice none 0 0,.bool false]) (fun w=>by kernel_rfl)
 obtain⟨onegation,enegation⟩:=ta_of (f:=79) (t:=159) (v:=(.iface 167 (.agg (.string (ofL t)::byV (unhexL t)).toArray))) (u:=.tuple #[.agg #[.nilIface],.bool false]) (fun w=>by kernel_rfl)
 obtain⟨ocomparison,ecomparison⟩:=ta_of (f:=79) (t:=162) (v:=(.iface 167 (.agg (.string (ofL t)::byV (unhexL t)).toArray))) (u:=.tuple #[.agg #[.string ⟨#[]⟩,.nilFunc,.string ⟨#[]⟩,.int .i64 0],.bool false]) (fun w=>by kernel_rfl)
 obtain⟨otextTest,etextTest⟩:=ta_of (f:=79) (t:=165) (v:=(.iface 167 (.agg (.string (ofL t)::byV (unhexL t)).toArray))) (u:=.tuple #[.agg #[.string ⟨#[]⟩,.nilFunc,.string ⟨#[]⟩,.string ⟨#[]⟩],.bool false]) (fun w=>by kernel_rfl)
 obtain⟨oauthorTest,eauthorTest⟩:=ta_of (f:=79) (t:=167) (v:=(.iface 167 (.agg (.string (ofL t)::byV (unhexL t)).toArray))) (u:=.tuple #[.agg (.string (ofL t)::byV (unhexL t)).toArray,.bool true]) (fun w=>by kernel_rfl)
 obtain⟨TA,hTA⟩:∃TA:Array Value,(.string (ofL t)::byV (unhexL t)).toArray=TA:=⟨_,rfl⟩
 have h0:TA[0]?=some (.string (ofL t)):=by rw[<-hTA];rfl
 have hsz:TA.size=17:=by rw[<-hTA];simp[byV,hl]
 have h1:TA.all (·.oneCell')=true:=by
  rw[<-hTA,List.all_toArray,List.all_eq_true]
  intro v hv
  rcases List.mem_cons.1 hv with rfl|hv
  ·rfl
  ·simp only[byV,List.mem_map]at hv
   obtain⟨c,_,rfl⟩:=hv;rfl
 have hinfo:(Tryz.prog.info? 167).map (·.size)=some TA.size:=by rw[hsz];kernel_rfl
 rw[hTA]at oeither eeither oboth eboth onegation enegation ocomparison ecomparison otextTest etextTest oauthorTest eauthorTest⊢
 have HQ:=Lib.hid (fun wx (hx:Below w.heap.size w wx)=>sc_quote (ofL t) wx (shaped_below hsh hx) (by rw[ofL_size];exact ht))
 rw[toL_ofL]at HQ
 have HV:=Lib.hid (show(⟨#[97,117,116,104,111,114,32,105,115,32]⟩:ByteArray)++ofL (quoteL t)=ofL (printF (.auth t)) from by
  show ofL [97,117,116,104,111,114,32,105,115,32]++ofL (quoteL t)=_
  rw[ofL_append,printF];congr 1)
 have hq2:=quoteL_length t
 obtain⟨QS,hQS⟩:∃QS,ofL (quoteL t)=QS:=⟨_,rfl⟩
 have hQz:QS.size<=3000000:=by rw[<-hQS,ofL_size];omega
 rw[hQS]at HQ HV
 have HB1:=Lib.hid (alloc_bel w (.cells TA 167))
 have HX1:=Lib.hid (heap_alloc_new w (.cells TA 167))
 have c0:(w.alloc (.cells TA 167)).cell? ⟨w.heap.size,0,none⟩=some (.string (ofL t)):=by rw[Lib.cell_of_heap HX1.out];exact h0
 generalize ofL t=TS at *
 have hst:=run_storeCells_new (P:=Tryz.prog) w 167 AuZ TA hinfo (show AuZ.size=TA.size from hsz.symm) h1
 clear hQS hq2 hTA hsh ht hl h0 hinfo h1
 go_enter Tryz.func53,Tryz.ntmps53
 go_wp2_with (first
  | (go_at_call 87;(with_reducible refine(HQ.out _ HB1.out).mono ?_);rintro e w2 ⟨rfl,hb2⟩;have HB2:=Lib.hid (HB1.out.trans (hb2.mono HB1.out.size));clear hb2))
 go_ret
 exact⟨congrArg (fun x=>Ending.returned (Value.string x)) HV.out,HB2.out⟩
set_option maxHeartbeats 8000000 in
set_option maxRecDepth 100000 in
theorem pr_grp{w:World}{t:Bs}{pb:Nat}(ht:t.length<=1000000)(hp:PatT w pb (ofL t) (compF t).1)(hsh:w.ShapedOpen Tryz.prog):Calls Tryz.prog 53 #[.iface 170 (.agg #[.pointer (some ⟨pb,0,none⟩)])] w (StP (printF (.grp t)) w):=by
 obtain⟨oeither,eeither⟩:=ta_of (f:=79) (t:=155) (v:=(.iface 170 (.agg #[.pointer (some ⟨pb,0,none⟩)]))) (u:=.tuple #[.slice none 0 0,.bool false]) (fun w=>by kernel_rfl)
 obtain⟨oboth,eboth⟩:=ta_of (f:=79) (t:=157) (v:=(.iface 170 (.agg #[.pointer (some ⟨pb,0,none⟩)]))) (u:=.tuple #[.slice none 0 0,.bool false]) (fun w=>by kernel_rfl)
 obtain⟨onegation,enegation⟩:=ta_of (f:=79) (t:=159) (v:=(.iface 170 (.agg #[.pointer (some ⟨pb,0,none⟩)]))) (u:=.tuple #[.agg #[.nilIface],.bool false]) (fun w=>by kernel_rfl)
 obtain⟨ocomparison,ecomparison⟩:=ta_of (f:=79) (t:=162) (v:=(.iface 170 (.agg #[.pointer (some ⟨pb,0,none⟩)]))) (u:=.tuple #[.agg #[.string ⟨#[]⟩,.nilFunc,.string ⟨#[]⟩,.int .i64 0],.bool false]) (fun w=>by kernel_rfl)
 obtain⟨otextTest,etextTest⟩:=ta_of (f:=79) (t:=165) (v:=(.iface 170 (.agg #[.pointer (some ⟨pb,0,none⟩)]))) (u:=.tuple #[.agg #[.string ⟨#[]⟩,.nilFunc,.string ⟨#[]⟩,.string ⟨#[]⟩],.bool false]) (fun w=>by kernel_rfl)
 obtain⟨oauthorTest,eauthorTest⟩:=ta_of (f:=79) (t:=167) (v:=(.iface 170 (.agg #[.pointer (some ⟨pb,0,none⟩)]))) (u:=.tuple #[.agg #[.string ⟨#[]⟩,.int .u8 0,.int .u8 0,.int .u8 0,.int .u8 0,.int .u8 0,.int .u8 0,.int .u8 0,.int .u8 0,.int .u8 0,.int .u8 0,.int .u8 0,.int .u8 0,.int .u8 0,.int .u8 0,.int .u8 0,.int .u8 0],.bool false]) (fun w=>by kernel_rfl)
 obtain⟨ogroupTest,egroupTest⟩:=ta_of (f:=79) (t:=170) (v:=(.iface 170 (.agg #[.pointer (some ⟨pb,0,none⟩)]))) (u:=.tuple #[.agg #[.pointer (some ⟨pb,0,none⟩)],.bool true]) (fun w=>by kernel_rfl)
 have HQ:=Lib.hid (fun wx (hx:Below w.heap.size w wx)=>sc_quote (ofL t) wx (shaped_below hsh hx) (by rw[ofL_size];exact ht))
 rw[toL_ofL]at HQ
 have HS:=Lib.hid (fun wx (hx:Below w.heap.size w wx)=>pat_string pb (ofL t) _ wx (hp.below hx).at)
 have HV:=Lib.hid (show(⟨#[103,114,111,117,112,32,105,115,32]⟩:ByteArray)++ofL (quoteL t)=ofL (printF (.grp t)) from by
  show ofL [103,114,111,117,112,32,105,115,32]++ofL (quoteL t)=_
  rw[ofL_append,printF];congr 1)
 have hq2:=quoteL_length t
 obtain⟨QS,hQS⟩:∃QS,ofL (quoteL t)=QS:=⟨_,rfl⟩
 have hQz:QS.size<=3000000:=by rw[<-hQS,ofL_size];omega
 rw[hQS]at HQ HV
 have HB1:=Lib.hid (alloc_bel w (.cells #[.pointer (some ⟨pb,0,none⟩)] 170))
 generalize ofL t=TS at *
 clear hQS hq2 hsh ht hp
 go_enter Tryz.func53,Tryz.ntmps53
 go_wp2_with (first
  | (go_at_call 88;(with_reducible refine(HS.out _ HB1.out).mono ?_);rintro e w1 ⟨rfl,rfl⟩)
  | (go_at_call 87;(with_reducible refine(HQ.out _ HB1.out).mono ?_);rintro e w2 ⟨rfl,hb2⟩;have HB2:=Lib.hid (HB1.out.trans (hb2.mono HB1.out.size));clear hb2))
 go_ret
 exact⟨congrArg (fun x=>Ending.returned (Value.string x)) HV.out,HB2.out⟩
abbrev TeP(W:World)(b:Nat)(v0 v2 v3:Value)(wx:World):Prop:=wx.cell? ⟨b,0,none⟩=some v0/\wx.cell? ⟨b,2,none⟩=some v2/\wx.cell? ⟨b,3,none⟩=some v3/\Below W.heap.size W wx
theorem TeP.later{W wx wy:World}{b:Nat}{v0 v2 v3:Value}(h:TeP W b v0 v2 v3 wx)(hb:Below wx.heap.size wx wy)(hz:b<W.heap.size):TeP W b v0 v2 v3 wy :=
 have hl:=Nat.lt_of_lt_of_le hz h.2.2.2.size
 ⟨(hb.cell (p:=⟨b,0,none⟩) hl).trans h.1,(hb.cell (p:=⟨b,2,none⟩) hl).trans h.2.1,(hb.cell (p:=⟨b,3,none⟩) hl).trans h.2.2.1,h.2.2.2.trans (hb.mono h.2.2.2.size)⟩
set_option maxHeartbeats 8000000 in
set_option maxRecDepth 100000 in
theorem pr_comparison{w:World}{f op:Bs}{n:Nat}(hf:f∈numFs)(ho:op∈cmpOps)(hn:n<=2147483647)(ht:TabN w):Calls Tryz.prog 53 #[.iface 162 (.agg #[.string (ofL f),.func (.func (numFn f)) #[] #[],.string (ofL op),.int .i64 (n:Int)])] w (StP (printF (.cmp f op n)) w):=by
 obtain⟨oeither,eeither⟩:=ta_of (f:=79) (t:=155) (v:=(.iface 162 (.agg #[.string (ofL f),.func (.func (numFn f)) #[] #[],.string (ofL op),.int .i64 (n:Int)]))) (u:=.tuple #[.slice none 0 0,.bool false]) (fun w=>by kernel_rfl)
 obtain⟨oboth,eboth⟩:=ta_of (f:=79) (t:=157) (v:=(.iface 162 (.agg #[.string (ofL f),.func (.func (numFn f)) #[] #[],.string (ofL op),.int .i64 (n:Int)]))) (u:=.tuple #[.slice none 0 0,.bool false]) (fun w=>by kernel_rfl)
 obtain⟨onegation,enegation⟩:=ta_of (f:=79) (t:=159) (v:=(.iface 162 (.agg #[.string (ofL f),.func (.func (numFn f)) #[] #[],.string (ofL op),.int .i64 (n:Int)]))) (u:=.tuple #[.agg #[.nilIface],.bool false]) (fun w=>by kernel_rfl)
 obtain⟨ocomparison,ecomparison⟩:=ta_of (f:=79) (t:=162) (v:=(.iface 162 (.agg #[.string (ofL f),.func (.func (numFn f)) #[] #[],.string (ofL op),.int .i64 (n:Int)]))) (u:=.tuple #[.agg #[.string (ofL f),.func (.func (numFn f)) #[] #[],.string (ofL op),.int .i64 (n:Int)],.bool true]) (fun w=>by kernel_rfl)
 have HD:=Lib.hid (fun wx (hx:Below w.heap.size w wx)=>asc_digits (n:Int) (by omega) (by omega) wx (ht.below hx))
 rw[decI_nat]at HD
 have hd:=dec_len_lt 9 n (by omega)
 have hfl:=numFs_len hf
 have hol:=cmpOp_len ho
 have HV:=Lib.hid (show(((ofL f++⟨#[32]⟩)++ofL op)++⟨#[32]⟩)++ofL (decDigits n)=ofL (printF (.cmp f op n)) from by
  show(((ofL f++ofL [32])++ofL op)++ofL [32])++ofL (decDigits n)=_
  rw[ofL_append,ofL_append,ofL_append,ofL_append,printF];congr 1;simp)
 obtain⟨FS,hFS⟩:∃FS,ofL f=FS:=⟨_,rfl⟩
 obtain⟨OS,hOS⟩:∃OS,ofL op=OS:=⟨_,rfl⟩
 obtain⟨DS,hDS⟩:∃DS,ofL (decDigits n)=DS:=⟨_,rfl⟩
 have hFz:FS.size<=100:=by rw[<-hFS,ofL_size];omega
 have hOz:OS.size<=100:=by rw[<-hOS,ofL_size];omega
 have hDz:DS.size<=100:=by rw[<-hDS,ofL_size];omega
 rw[hFS,hOS]at oeither eeither oboth eboth onegation enegation ocomparison ecomparison
 rw[hFS,hOS,hDS]at HV
 rw[hDS]at HD
 rw[hFS,hOS]
 generalize numFn f=F at *
 have HB1:=Lib.hid (alloc_bel w (.cells #[.string FS,.func (.func F) #[] #[],.string OS,.int .i64 (n:Int)] 162))
 have HX1:=Lib.hid (heap_alloc_new w (.cells #[.string FS,.func (.func F) #[] #[],.string OS,.int .i64 (n:Int)] 162))
 clear hFS hOS hDS hf ho ht hd hfl hol
 go_enter Tryz.func53,Tryz.ntmps53
 go_upto_region 16 with fail
 have hz1:=heap_lt HX1.out
 generalize w.alloc (.cells #[.string FS,.func (.func F) #[] #[],.string OS,.int .i64 (n:Int)] 162)=W at *
 have c0:W.cell? ⟨w.heap.size,0,none⟩=some (.string FS):=by rw[Lib.cell_of_heap HX1.out];rfl
 have c2:W.cell? ⟨w.heap.size,2,none⟩=some (.string OS):=by rw[Lib.cell_of_heap HX1.out];rfl
 have c3:W.cell? ⟨w.heap.size,3,none⟩=some (.int .i64 (n:Int)):=by rw[Lib.cell_of_heap HX1.out];rfl
 have HK:=Lib.hid (show TeP W w.heap.size (.string FS) (.string OS) (.int .i64 (n:Int)) W.drew from⟨c0,c2,c3,(Below.refl _ _).drew⟩)
 have HD2:=Lib.hid (fun wx (hx:TeP W w.heap.size (.string FS) (.string OS) (.int .i64 (n:Int)) wx)=>HD.out wx (HB1.out.trans (hx.2.2.2.mono HB1.out.size)))
 clear HX1 HD
 go_region_held (fun w'=>w'.cell? ⟨w.heap.size,0,none⟩=some (.string FS)/\w'.cell? ⟨w.heap.size,2,none⟩=some (.string OS)/\w'.cell? ⟨w.heap.size,3,none⟩=some (.int .i64 (n:Int))/\Below W.heap.size W w')
  (first|exact HK.out|exact TeP.later (by assumption) hb5 hz1)
  ((go_at_call 52;(with_reducible refine(HD2.out _ ?hh).mono ?_);(case hh=>assumption);rintro e w5 ⟨rfl,hb5⟩))
 all_goals
  have HF:=Lib.hid (show TeP W w.heap.size (.string FS) (.string OS) (.int .i64 (n:Int)) _ by assumption)
  go_wp2_with fail
  go_ret
  exact⟨congrArg (fun x=>Ending.returned (Value.string x)) HV.out,HB1.out.trans (HF.out.2.2.2.mono HB1.out.size)⟩
set_option maxHeartbeats 8000000 in
set_option maxRecDepth 100000 in
theorem pr_textTest{w:World}{f m t:Bs}(hf:f∈txtFs)(ho:m∈modesL)(ht:t.length<=1000000)(hsh:w.ShapedOpen Tryz.prog):Calls Tryz.prog 53 #[.iface 165 (.agg #[.string (ofL f),.func (.func (txtFn f)) #[] #[],.string (ofL m),.string (ofL t)])] w (StP (printF (.txt f m t)) w):=by
 obtain⟨oeither,eeither⟩:=ta_of (f:=79) (t:=155) (v:=(.iface 165 (.agg #[.string (ofL f),.func (.func (txtFn f)) #[] #[],.string (ofL m),.string (ofL t)]))) (u:=.tuple #[.slice none 0 0,.bool false]) (fun w=>by kernel_rfl)
 obtain⟨oboth,eboth⟩:=ta_of (f:=79) (t:=157) (v:=(.iface 165 (.agg #[.string (ofL f),.func (.func (txtFn f)) #[] #[],.string (ofL m),.string (ofL t)]))) (u:=.tuple #[.slice none 0 0,.bool false]) (fun w=>by kernel_rfl)
 obtain⟨onegation,enegation⟩:=ta_of (f:=79) (t:=159) (v:=(.iface 165 (.agg #[.string (ofL f),.func (.func (txtFn f)) #[] #[],.string (ofL m),.string (ofL t)]))) (u:=.tuple #[.agg #[.nilIface],.bool false]) (fun w=>by kernel_rfl)
 obtain⟨ocomparison,ecomparison⟩:=ta_of (f:=79) (t:=162) (v:=(.iface 165 (.agg #[.string (ofL f),.func (.func (txtFn f)) #[] #[],.string (ofL m),.string (ofL t)]))) (u:=.tuple #[.agg #[.string ⟨#[]⟩,.nilFunc,.string ⟨#[]⟩,.int .i64 0],.bool false]) (fun w=>by kernel_rfl)
 obtain⟨otextTest,etextTest⟩:=ta_of (f:=79) (t:=165) (v:=(.iface 165 (.agg #[.string (ofL f),.func (.func (txtFn f)) #[] #[],.string (ofL m),.string (ofL t)]))) (u:=.tuple #[.agg #[.string (ofL f),.func (.func (txtFn f)) #[] #[],.string (ofL m),.string (ofL t)],.bool true]) (fun w=>by kernel_rfl)
 have HD:=Lib.hid (fun wx (hx:Below w.heap.size w wx)=>sc_quote (ofL t) wx (shaped_below hsh hx) (by rw[ofL_size];exact ht))
 rw[toL_ofL]at HD
 have hd:=quoteL_length t
 have hfl:=txtFs_len hf
 have hol:=modes_len ho
 have HV:=Lib.hid (show(((ofL f++⟨#[32]⟩)++ofL m)++⟨#[32]⟩)++ofL (quoteL t)=ofL (printF (.txt f m t)) from by
  show(((ofL f++ofL [32])++ofL m)++ofL [32])++ofL (quoteL t)=_
  rw[ofL_append,ofL_append,ofL_append,ofL_append,printF];congr 1;simp)
 obtain⟨FS,hFS⟩:∃FS,ofL f=FS:=⟨_,rfl⟩
 obtain⟨OS,hOS⟩:∃OS,ofL m=OS:=⟨_,rfl⟩
 obtain⟨TS,hTS⟩:∃TS,ofL t=TS:=⟨_,rfl⟩
 obtain⟨DS,hDS⟩:∃DS,ofL (quoteL t)=DS:=⟨_,rfl⟩
 have hFz:FS.size<=100:=by rw[<-hFS,ofL_size];omega
 have hOz:OS.size<=100:=by rw[<-hOS,ofL_size];omega
 have hDz:DS.size<=3000000:=by rw[<-hDS,ofL_size];omega
 rw[hFS,hOS,hTS]at oeither eeither oboth eboth onegation enegation ocomparison ecomparison otextTest etextTest
 rw[hFS,hOS,hDS]at HV
 rw[hDS,hTS]at HD
 rw[hFS,hOS,hTS]
 generalize txtFn f=F at *
 have HB1:=Lib.hid (alloc_bel w (.cells #[.string FS,.func (.func F) #[] #[],.string OS,.string TS] 165))
 have HX1:=Lib.hid (heap_alloc_new w (.cells #[.string FS,.func (.func F) #[] #[],.string OS,.string TS] 165))
 clear hFS hOS hDS hTS hf ho ht hd hfl hol hsh
 go_enter Tryz.func53,Tryz.ntmps53
 go_upto_region 19 with fail
 have hz1:=heap_lt HX1.out
 generalize w.alloc (.cells #[.string FS,.func (.func F) #[] #[],.string OS,.string TS] 165)=W at *
 have c0:W.cell? ⟨w.heap.size,0,none⟩=some (.string FS):=by rw[Lib.cell_of_heap HX1.out];rfl
 have c2:W.cell? ⟨w.heap.size,2,none⟩=some (.string OS):=by rw[Lib.cell_of_heap HX1.out];rfl
 have c3:W.cell? ⟨w.heap.size,3,none⟩=some (.string TS):=by rw[Lib.cell_of_heap HX1.out];rfl
 have HK:=Lib.hid (show TeP W w.heap.size (.string FS) (.string OS) (.string TS) W.drew from⟨c0,c2,c3,(Below.refl _ _).drew⟩)
 have HD2:=Lib.hid (fun wx (hx:TeP W w.heap.size (.string FS) (.string OS) (.string TS) wx)=>HD.out wx (HB1.out.trans (hx.2.2.2.mono HB1.out.size)))
 clear HX1 HD
 go_region_held (fun w'=>w'.cell? ⟨w.heap.size,0,none⟩=some (.string FS)/\w'.cell? ⟨w.heap.size,2,none⟩=some (.string OS)/\w'.cell? ⟨w.heap.size,3,none⟩=some (.string TS)/\Below W.heap.size W w')
  (first|exact HK.out|exact TeP.later (by assumption) hb5 hz1)
  ((go_at_call 87;(with_reducible refine(HD2.out _ ?hh).mono ?_);(case hh=>assumption);rintro e w5 ⟨rfl,hb5⟩))
 all_goals
  have HF:=Lib.hid (show TeP W w.heap.size (.string FS) (.string OS) (.string TS) _ by assumption)
  go_wp2_with fail
  go_ret
  exact⟨congrArg (fun x=>Ending.returned (Value.string x)) HV.out,HB1.out.trans (HF.out.2.2.2.mono HB1.out.size)⟩
theorem printOr_mem:∀(l:List Cond) (c:Cond),c∈l->(printF c).length<=(printOr l).length
 | [],_,h=>by simp at h
 | [d],c,h=>by
  simp only[List.mem_cons,List.not_mem_nil,or_false]at h
  subst h;rw[printOr];exact Nat.le_refl _
 | d::e::r,c,h=>by
  have hp:printOr (d::e::r)=printF d++([32,111,114,32]++printOr (e::r)):=by rw[printOr]
  rw[hp,List.length_append,List.length_append]
  rcases List.mem_cons.1 h with rfl|h
  ·omega
  ·have:=printOr_mem (e::r) c h;omega
theorem printAnd_mem:∀(l:List Cond) (c:Cond),c∈l->(printF c).length<=(printAnd l).length
 | [],_,h=>by simp at h
 | [d],c,h=>by
  simp only[List.mem_cons,List.not_mem_nil,or_false]at h
  subst h;rw[printAnd];split<;>simp<;>omega
 | d::e::r,c,h=>by
  have hp:printAnd (d::e::r)=(if isOr d then 40::(printF d ++ [41]) else printF d)++([32,97,110,100,32]++printAnd (e::r)):=by rw[printAnd]
  rw[hp,List.length_append,List.length_append]
  rcases List.mem_cons.1 h with rfl|h
  ·split<;>simp<;>omega
  ·have:=printAnd_mem (e::r) c h;omega
theorem isList_or(c:Cond):(isOr c || isAnd c)=isList c:=by cases c<;>rfl
theorem cond_prints{A:Nat->Prop}{w:World}(hsh:w.ShapedOpen Tryz.prog)(ht:TabN w){c:Cond}{v:Value}(h:CondIn A w c v):(printF c).length<=3000000->∀wx,Below w.heap.size w wx->Calls Tryz.prog 53 #[v] wx (StP (printF c) wx):=by
 induction h with
 | @either l vs b off cp hl hp hm hb hr hs ih =>
  intro hbd wx hwx
  rw[printF]at hbd⊢
  refine pr_either _ _ _ _ ?_
  have h:=sc_printList (w:=wx) (vs:=vs) (cs:=l) (some ⟨b,off,none⟩) l.length cp rfl hl hp hm (hr.below hwx) false ⟨#[32,111,114,32]⟩ (Nat.le_succ 4) (fun i h=>(hs i (by omega) h).shape) (fun i h1 h2=>(hs i h2 h1).taE) (fun i h1 h2 wy hy=>ih i h2 h1 (by have:=printOr_mem l l[i] (List.getElem_mem h2);omega) wy (hwx.trans (hy.mono hwx.size))) (fun x hx=>by have:=printOr_mem l x hx;omega) (by
    show(Lib.join (txC false l) [32,111,114,32]).length<=_
    rw[join_or];omega)
  have e:Lib.join (txC false l) (toL ⟨#[32,111,114,32]⟩)=printOr l:=join_or l
  rw[e]at h
  exact h
 | @both l vs b off cp hl hp hm hb hr hs ih =>
  intro hbd wx hwx
  rw[printF]at hbd⊢
  refine pr_both _ _ _ _ ?_
  have h:=sc_printList (w:=wx) (vs:=vs) (cs:=l) (some ⟨b,off,none⟩) l.length cp rfl hl hp hm (hr.below hwx) true ⟨#[32,97,110,100,32]⟩ (Nat.le_refl 5) (fun i h=>(hs i (by omega) h).shape) (fun i h1 h2=>(hs i h2 h1).taE) (fun i h1 h2 wy hy=>ih i h2 h1 (by have:=printAnd_mem l l[i] (List.getElem_mem h2);omega) wy (hwx.trans (hy.mono hwx.size))) (fun x hx=>by have:=printAnd_mem l x hx;omega) (by
    show(Lib.join (txC true l) [32,97,110,100,32]).length<=_
    rw[join_and];omega)
  have e:Lib.join (txC true l) (toL ⟨#[32,97,110,100,32]⟩)=printAnd l:=join_and l
  rw[e]at h
  exact h
 | @neg x v h ih =>
  intro hbd wx hwx
  obtain⟨T,y,rfl⟩:=h.shape
  rw[printF]at hbd⊢
  by_cases hq:isList x=true
  ·rw[if_pos hq]at hbd⊢
   have hx:(printF x).length<=3000000:=by simp only[List.length_append,List.length_cons]at hbd;omega
   exact pr_neg_par h.taE h.taB (by rw[isList_or];exact hq) hx (fun wy hy=>ih hx wy (hwx.trans (hy.mono hwx.size)))
  ·rw[if_neg hq]at hbd⊢
   have hx:(printF x).length<=3000000:=by simp only[List.length_append,List.length_cons]at hbd;omega
   exact pr_neg_no h.taE h.taB (by rw[isList_or];simpa using hq) hx (fun wy hy=>ih hx wy (hwx.trans (hy.mono hwx.size)))
 | cmp hf ho hn =>
  intro _ wx hwx
  exact pr_comparison hf ho hn (ht.below hwx)
 | txt hf hm htl =>
  intro _ wx hwx
  exact pr_textTest hf hm htl (shaped_below hsh hwx)
 | @auth t hta =>
  intro _ wx hwx
  have hl:t.length=32:=by
   unfold authB at hta
   simp only[Bool.and_eq_true,decide_eq_true_eq]at hta
   exact hta.1
  exact pr_auth (by omega) (by rw[unhexL_len,hl]) (shaped_below hsh hwx)
 | @grp t pb hg hp =>
  intro _ wx hwx
  have hl:t.length<=1000000:=by
   unfold compF at hg
   split at hg
   ·omega
   ·split at hg
    ·simp at hg
    ·omega
  exact pr_grp hl (hp.below hwx) (shaped_below hsh hwx)
set_option maxHeartbeats 8000000 in
set_option maxRecDepth 100000 in
theorem ru_plus00{w:World}{act:Bs}{m u:Int}(hal:act.length<=100)(hm : -10000<=m/\m<=10000)(hu:0<=u/\u<=105190559)(ht:TabN w)(hA:act=yPlus)  :
  Calls Tryz.prog 34 #[.agg (ruleC (ofL act) m false u .nilIface)] w (StP (act++decI m) w):=by
 have HB1:=Lib.hid (alloc_bel w (.cells (ruleC (ofL act) m false u .nilIface) 81))
 have HX1:=Lib.hid (heap_alloc_new w (.cells (ruleC (ofL act) m false u .nilIface) 81))
 have E1:=Lib.hid (act_eq act [43])
 have E2:=Lib.hid (act_eq act [45])
 have E3:=Lib.hid (act_eq act [61])
 have HD1:=Lib.hid (fun wx (hx:Below w.heap.size w wx)=>asc_digits m (by omega) (by omega) wx (ht.below hx))
 have HD2:=Lib.hid (fun wx (hx:Below w.heap.size w wx)=>asc_digits u (by omega) (by omega) wx (ht.below hx))
 have hd1:=decI_len hm
 have hd2:(decI u).length<=10:=by
  obtain⟨U,rfl⟩:∃U:Nat,u=(U:Int):=⟨u.toNat,by omega⟩
  rw[decI_nat];have:=dec_len_lt 9 U (by omega);omega
 have HV:=Lib.hid (show(ofL act++ofL (decI m))=ofL (act++decI m) from by
  show(ofL act++ofL (decI m))=_
  rw[ofL_append])
 obtain⟨AS,hAS⟩:∃AS,ofL act=AS:=⟨_,rfl⟩
 have HAS:=Lib.hid hAS
 obtain⟨D1,hD1⟩:∃D,ofL (decI m)=D:=⟨_,rfl⟩
 obtain⟨D2,hD2⟩:∃D,ofL (decI u)=D:=⟨_,rfl⟩
 have hAz:AS.size<=100:=by rw[<-hAS,ofL_size];exact hal
 have hDz:D1.size<=100:=by rw[<-hD1,ofL_size];omega
 have hEz:D2.size<=100:=by rw[<-hD2,ofL_size];omega
 rw[hAS]at HB1 HX1 E1 E2 E3
 rw[hD1]at HD1
 rw[hD2]at HD2
 rw[hAS,hD1]at HV
 rw[hAS]
 have t1:(AS.toList == [43])=true:=by rw[E1.out,hA];decide
 clear hA hAS hD1 hD2 hd1 hd2 ht hal
 go_enter Tryz.func34,Tryz.ntmps34
 go_upto_region 1 with fail
 generalize w.alloc (.cells (ruleC AS m false u .nilIface) 81)=W at *
 have hz1:=heap_lt HX1.out
 have HOLD:=Lib.hid (fun wx (hx:Below W.heap.size W wx)=>(hx.block _ hz1).trans HX1.out)
 have c0:W.cell? ⟨w.heap.size,0,none⟩=some (.string AS):=by rw[Lib.cell_of_heap HX1.out];rfl
 have c1:W.cell? ⟨w.heap.size,1,none⟩=some (.int .i64 m):=by rw[Lib.cell_of_heap HX1.out];rfl
 have c2:W.cell? ⟨w.heap.size,2,none⟩=some (.bool false):=by rw[Lib.cell_of_heap HX1.out];rfl
 have c3:W.cell? ⟨w.heap.size,3,none⟩=some (.int .i64 u):=by rw[Lib.cell_of_heap HX1.out];rfl
 have c4:W.cell? ⟨w.heap.size,4,none⟩=some .nilIface:=by rw[Lib.cell_of_heap HX1.out];rfl
 go_wp2_with (first|(go_at_call 52;(with_reducible refine(HD1.out _ HB1.out).mono ?_);rintro e v1 ⟨rfl,hb1⟩;have HC1:=Lib.hid (HB1.out.trans (hb1.mono HB1.out.size));have c12:=(hb1.cell (p:=⟨w.heap.size,2,none⟩) hz1).trans c2;have c13:=(hb1.cell (p:=⟨w.heap.size,3,none⟩) hz1).trans c3;have c14:=(hb1.cell (p:=⟨w.heap.size,4,none⟩) hz1).trans c4;have hz2:=Nat.lt_of_lt_of_le hz1 hb1.size;clear hb1))
 go_ret
 exact⟨congrArg (fun x=>Ending.returned (Value.string x)) HV.out,HC1.out⟩
set_option maxHeartbeats 8000000 in
set_option maxRecDepth 100000 in
theorem ru_plus01{w:World}{act:Bs}{m u:Int}(hal:act.length<=100)(hm : -10000<=m/\m<=10000)(hu:0<=u/\u<=105190559)(ht:TabN w)(hA:act=yPlus)  :
  Calls Tryz.prog 34 #[.agg (ruleC (ofL act) m true u .nilIface)] w (StP ((act++decI m)++([32,117,110,116,105,108,32]++decI u)) w):=by
 have HB1:=Lib.hid (alloc_bel w (.cells (ruleC (ofL act) m true u .nilIface) 81))
 have HX1:=Lib.hid (heap_alloc_new w (.cells (ruleC (ofL act) m true u .nilIface) 81))
 have E1:=Lib.hid (act_eq act [43])
 have E2:=Lib.hid (act_eq act [45])
 have E3:=Lib.hid (act_eq act [61])
 have HD1:=Lib.hid (fun wx (hx:Below w.heap.size w wx)=>asc_digits m (by omega) (by omega) wx (ht.below hx))
 have HD2:=Lib.hid (fun wx (hx:Below w.heap.size w wx)=>asc_digits u (by omega) (by omega) wx (ht.below hx))
 have hd1:=decI_len hm
 have hd2:(decI u).length<=10:=by
  obtain⟨U,rfl⟩:∃U:Nat,u=(U:Int):=⟨u.toNat,by omega⟩
  rw[decI_nat];have:=dec_len_lt 9 U (by omega);omega
 have HV:=Lib.hid (show((ofL act++ofL (decI m))++((⟨#[32,117,110,116,105,108,32]⟩:ByteArray)++ofL (decI u)))=ofL ((act++decI m)++([32,117,110,116,105,108,32]++decI u)) from by
  show((ofL act++ofL (decI m))++(ofL [32,117,110,116,105,108,32]++ofL (decI u)))=_
  rw[ofL_append,ofL_append,ofL_append])
 obtain⟨AS,hAS⟩:∃AS,ofL act=AS:=⟨_,rfl⟩
 have HAS:=Lib.hid hAS
 obtain⟨D1,hD1⟩:∃D,ofL (decI m)=D:=⟨_,rfl⟩
 obtain⟨D2,hD2⟩:∃D,ofL (decI u)=D:=⟨_,rfl⟩
 have hAz:AS.size<=100:=by rw[<-hAS,ofL_size];exact hal
 have hDz:D1.size<=100:=by rw[<-hD1,ofL_size];omega
 have hEz:D2.size<=100:=by rw[<-hD2,ofL_size];omega
 rw[hAS]at HB1 HX1 E1 E2 E3
 rw[hD1]at HD1
 rw[hD2]at HD2
 rw[hAS,hD1,hD2]at HV
 rw[hAS]
 have t1:(AS.toList == [43])=true:=by rw[E1.out,hA];decide
 clear hA hAS hD1 hD2 hd1 hd2 ht hal
 go_enter Tryz.func34,Tryz.ntmps34
 go_upto_region 1 with fail
 generalize w.alloc (.cells (ruleC AS m true u .nilIface) 81)=W at *
 have hz1:=heap_lt HX1.out
 have HOLD:=Lib.hid (fun wx (hx:Below W.heap.size W wx)=>(hx.block _ hz1).trans HX1.out)
 have c0:W.cell? ⟨w.heap.size,0,none⟩=some (.string AS):=by rw[Lib.cell_of_heap HX1.out];rfl
 have c1:W.cell? ⟨w.heap.size,1,none⟩=some (.int .i64 m):=by rw[Lib.cell_of_heap HX1.out];rfl
 have c2:W.cell? ⟨w.heap.size,2,none⟩=some (.bool true):=by rw[Lib.cell_of_heap HX1.out];rfl
 have c3:W.cell? ⟨w.heap.size,3,none⟩=some (.int .i64 u):=by rw[Lib.cell_of_heap HX1.out];rfl
 have c4:W.cell? ⟨w.heap.size,4,none⟩=some .nilIface:=by rw[Lib.cell_of_heap HX1.out];rfl
 go_wp2_with (first|(go_at_call 52;(with_reducible refine(HD1.out _ HB1.out).mono ?_);rintro e v1 ⟨rfl,hb1⟩;have HC1:=Lib.hid (HB1.out.trans (hb1.mono HB1.out.size));have c12:=(hb1.cell (p:=⟨w.heap.size,2,none⟩) hz1).trans c2;have c13:=(hb1.cell (p:=⟨w.heap.size,3,none⟩) hz1).trans c3;have c14:=(hb1.cell (p:=⟨w.heap.size,4,none⟩) hz1).trans c4;have hz2:=Nat.lt_of_lt_of_le hz1 hb1.size;clear hb1)|(go_at_call 52;(with_reducible refine(HD2.out _ HC1.out).mono ?_);rintro e v2 ⟨rfl,hb2⟩;have HC2:=Lib.hid (HC1.out.trans (hb2.mono HC1.out.size));have c24:=(hb2.cell (p:=⟨w.heap.size,4,none⟩) hz2).trans c14;clear hb2))
 go_ret
 exact⟨congrArg (fun x=>Ending.returned (Value.string x)) HV.out,HC2.out⟩
set_option maxHeartbeats 8000000 in
set_option maxRecDepth 100000 in
theorem ru_plus10{w:World}{act:Bs}{m u:Int}(hal:act.length<=100)(hm : -10000<=m/\m<=10000)(hu:0<=u/\u<=105190559)(ht:TabN w)(hA:act=yPlus){T:TypeId}{y:Value}{s:Bs}(hs:s.length<=3000000)(hp:∀wx,Below w.heap.size w wx->Calls Tryz.prog 53 #[.iface T y] wx (StP s wx)) :
  Calls Tryz.prog 34 #[.agg (ruleC (ofL act) m false u (.iface T y))] w (StP ((act++decI m)++([32,105,102,32]++s)) w):=by
 have HB1:=Lib.hid (alloc_bel w (.cells (ruleC (ofL act) m false u (.iface T y)) 81))
 have HX1:=Lib.hid (heap_alloc_new w (.cells (ruleC (ofL act) m false u (.iface T y)) 81))
 have E1:=Lib.hid (act_eq act [43])
 have E2:=Lib.hid (act_eq act [45])
 have E3:=Lib.hid (act_eq act [61])
 have HD1:=Lib.hid (fun wx (hx:Below w.heap.size w wx)=>asc_digits m (by omega) (by omega) wx (ht.below hx))
 have HD2:=Lib.hid (fun wx (hx:Below w.heap.size w wx)=>asc_digits u (by omega) (by omega) wx (ht.below hx))
 have hd1:=decI_len hm
 have hd2:(decI u).length<=10:=by
  obtain⟨U,rfl⟩:∃U:Nat,u=(U:Int):=⟨u.toNat,by omega⟩
  rw[decI_nat];have:=dec_len_lt 9 U (by omega);omega
 have HV:=Lib.hid (show((ofL act++ofL (decI m))++((⟨#[32,105,102,32]⟩:ByteArray)++ofL s))=ofL ((act++decI m)++([32,105,102,32]++s)) from by
  show((ofL act++ofL (decI m))++(ofL [32,105,102,32]++ofL s))=_
  rw[ofL_append,ofL_append,ofL_append])
 obtain⟨AS,hAS⟩:∃AS,ofL act=AS:=⟨_,rfl⟩
 have HAS:=Lib.hid hAS
 obtain⟨D1,hD1⟩:∃D,ofL (decI m)=D:=⟨_,rfl⟩
 obtain⟨D2,hD2⟩:∃D,ofL (decI u)=D:=⟨_,rfl⟩
 have hAz:AS.size<=100:=by rw[<-hAS,ofL_size];exact hal
 have hDz:D1.size<=100:=by rw[<-hD1,ofL_size];omega
 have hEz:D2.size<=100:=by rw[<-hD2,ofL_size];omega
 rw[hAS]at HB1 HX1 E1 E2 E3
 rw[hD1]at HD1
 rw[hD2]at HD2
 rw[hAS,hD1]at HV
 rw[hAS]
 have HP:=Lib.hid hp
 unfold StP at HP
 obtain⟨PS,hPS⟩:∃PS,ofL s=PS:=⟨_,rfl⟩
 have hPz:PS.size<=3000000:=by rw[<-hPS,ofL_size];exact hs
 rw[hPS]at HP HV
 clear hp hs hPS
 have t1:(AS.toList == [43])=true:=by rw[E1.out,hA];decide
 clear hA hAS hD1 hD2 hd1 hd2 ht hal
 go_enter Tryz.func34,Tryz.ntmps34
 go_upto_region 1 with fail
 generalize w.alloc (.cells (ruleC AS m false u (.iface T y)) 81)=W at *
 have hz1:=heap_lt HX1.out
 have HOLD:=Lib.hid (fun wx (hx:Below W.heap.size W wx)=>(hx.block _ hz1).trans HX1.out)
 have c0:W.cell? ⟨w.heap.size,0,none⟩=some (.string AS):=by rw[Lib.cell_of_heap HX1.out];rfl
 have c1:W.cell? ⟨w.heap.size,1,none⟩=some (.int .i64 m):=by rw[Lib.cell_of_heap HX1.out];rfl
 have c2:W.cell? ⟨w.heap.size,2,none⟩=some (.bool false):=by rw[Lib.cell_of_heap HX1.out];rfl
 have c3:W.cell? ⟨w.heap.size,3,none⟩=some (.int .i64 u):=by rw[Lib.cell_of_heap HX1.out];rfl
 have c4:W.cell? ⟨w.heap.size,4,none⟩=some (.iface T y):=by rw[Lib.cell_of_heap HX1.out];rfl
 go_wp2_with (first|(go_at_call 52;(with_reducible refine(HD1.out _ HB1.out).mono ?_);rintro e v1 ⟨rfl,hb1⟩;have HC1:=Lib.hid (HB1.out.trans (hb1.mono HB1.out.size));have c12:=(hb1.cell (p:=⟨w.heap.size,2,none⟩) hz1).trans c2;have c13:=(hb1.cell (p:=⟨w.heap.size,3,none⟩) hz1).trans c3;have c14:=(hb1.cell (p:=⟨w.heap.size,4,none⟩) hz1).trans c4;have hz2:=Nat.lt_of_lt_of_le hz1 hb1.size;clear hb1)|(go_at_call 53;(with_reducible refine(HP.out _ HC1.out).mono ?_);rintro e v3 ⟨rfl,hb3⟩;have HC3:=Lib.hid (HC1.out.trans (hb3.mono HC1.out.size));clear hb3))
 go_ret
 exact⟨congrArg (fun x=>Ending.returned (Value.string x)) HV.out,HC3.out⟩
set_option maxHeartbeats 8000000 in
set_option maxRecDepth 100000 in
theorem ru_plus11{w:World}{act:Bs}{m u:Int}(hal:act.length<=100)(hm : -10000<=m/\m<=10000)(hu:0<=u/\u<=105190559)(ht:TabN w)(hA:act=yPlus){T:TypeId}{y:Value}{s:Bs}(hs:s.length<=3000000)(hp:∀wx,Below w.heap.size w wx->Calls Tryz.prog 53 #[.iface T y] wx (StP s wx)) :
  Calls Tryz.prog 34 #[.agg (ruleC (ofL act) m true u (.iface T y))] w (StP (((act++decI m)++([32,117,110,116,105,108,32]++decI u))++([32,105,102,32]++s)) w):=by
 have HB1:=Lib.hid (alloc_bel w (.cells (ruleC (ofL act) m true u (.iface T y)) 81))
 have HX1:=Lib.hid (heap_alloc_new w (.cells (ruleC (ofL act) m true u (.iface T y)) 81))
 have E1:=Lib.hid (act_eq act [43])
 have E2:=Lib.hid (act_eq act [45])
 have E3:=Lib.hid (act_eq act [61])
 have HD1:=Lib.hid (fun wx (hx:Below w.heap.size w wx)=>asc_digits m (by omega) (by omega) wx (ht.below hx))
 have HD2:=Lib.hid (fun wx (hx:Below w.heap.size w wx)=>asc_digits u (by omega) (by omega) wx (ht.below hx))
 have hd1:=decI_len hm
 have hd2:(decI u).length<=10:=by
  obtain⟨U,rfl⟩:∃U:Nat,u=(U:Int):=⟨u.toNat,by omega⟩
  rw[decI_nat];have:=dec_len_lt 9 U (by omega);omega
 have HV:=Lib.hid (show(((ofL act++ofL (decI m))++((⟨#[32,117,110,116,105,108,32]⟩:ByteArray)++ofL (decI u)))++((⟨#[32,105,102,32]⟩:ByteArray)++ofL s))=ofL (((act++decI m)++([32,117,110,116,105,108,32]++decI u))++([32,105,102,32]++s)) from by
  show(((ofL act++ofL (decI m))++(ofL [32,117,110,116,105,108,32]++ofL (decI u)))++(ofL [32,105,102,32]++ofL s))=_
  rw[ofL_append,ofL_append,ofL_append,ofL_append,ofL_append])
 obtain⟨AS,hAS⟩:∃AS,ofL act=AS:=⟨_,rfl⟩
 have HAS:=Lib.hid hAS
 obtain⟨D1,hD1⟩:∃D,ofL (decI m)=D:=⟨_,rfl⟩
 obtain⟨D2,hD2⟩:∃D,ofL (decI u)=D:=⟨_,rfl⟩
 have hAz:AS.size<=100:=by rw[<-hAS,ofL_size];exact hal
 have hDz:D1.size<=100:=by rw[<-hD1,ofL_size];omega
 have hEz:D2.size<=100:=by rw[<-hD2,ofL_size];omega
 rw[hAS]at HB1 HX1 E1 E2 E3
 rw[hD1]at HD1
 rw[hD2]at HD2
 rw[hAS,hD1,hD2]at HV
 rw[hAS]
 have HP:=Lib.hid hp
 unfold StP at HP
 obtain⟨PS,hPS⟩:∃PS,ofL s=PS:=⟨_,rfl⟩
 have hPz:PS.size<=3000000:=by rw[<-hPS,ofL_size];exact hs
 rw[hPS]at HP HV
 clear hp hs hPS
 have t1:(AS.toList == [43])=true:=by rw[E1.out,hA];decide
 clear hA hAS hD1 hD2 hd1 hd2 ht hal
 go_enter Tryz.func34,Tryz.ntmps34
 go_upto_region 1 with fail
 generalize w.alloc (.cells (ruleC AS m true u (.iface T y)) 81)=W at *
 have hz1:=heap_lt HX1.out
 have HOLD:=Lib.hid (fun wx (hx:Below W.heap.size W wx)=>(hx.block _ hz1).trans HX1.out)
 have c0:W.cell? ⟨w.heap.size,0,none⟩=some (.string AS):=by rw[Lib.cell_of_heap HX1.out];rfl
 have c1:W.cell? ⟨w.heap.size,1,none⟩=some (.int .i64 m):=by rw[Lib.cell_of_heap HX1.out];rfl
 have c2:W.cell? ⟨w.heap.size,2,none⟩=some (.bool true):=by rw[Lib.cell_of_heap HX1.out];rfl
 have c3:W.cell? ⟨w.heap.size,3,none⟩=some (.int .i64 u):=by rw[Lib.cell_of_heap HX1.out];rfl
 have c4:W.cell? ⟨w.heap.size,4,none⟩=some (.iface T y):=by rw[Lib.cell_of_heap HX1.out];rfl
 go_wp2_with (first|(go_at_call 52;(with_reducible refine(HD1.out _ HB1.out).mono ?_);rintro e v1 ⟨rfl,hb1⟩;have HC1:=Lib.hid (HB1.out.trans (hb1.mono HB1.out.size));have c12:=(hb1.cell (p:=⟨w.heap.size,2,none⟩) hz1).trans c2;have c13:=(hb1.cell (p:=⟨w.heap.size,3,none⟩) hz1).trans c3;have c14:=(hb1.cell (p:=⟨w.heap.size,4,none⟩) hz1).trans c4;have hz2:=Nat.lt_of_lt_of_le hz1 hb1.size;clear hb1)|(go_at_call 52;(with_reducible refine(HD2.out _ HC1.out).mono ?_);rintro e v2 ⟨rfl,hb2⟩;have HC2:=Lib.hid (HC1.out.trans (hb2.mono HC1.out.size));have c24:=(hb2.cell (p:=⟨w.heap.size,4,none⟩) hz2).trans c14;clear hb2)|(go_at_call 53;(with_reducible refine(HP.out _ HC2.out).mono ?_);rintro e v3 ⟨rfl,hb3⟩;have HC3:=Lib.hid (HC2.out.trans (hb3.mono HC2.out.size));clear hb3))
 go_ret
 exact⟨congrArg (fun x=>Ending.returned (Value.string x)) HV.out,HC3.out⟩
set_option maxHeartbeats 8000000 in
set_option maxRecDepth 100000 in
theorem ru_minus00{w:World}{act:Bs}{m u:Int}(hal:act.length<=100)(hm : -10000<=m/\m<=10000)(hu:0<=u/\u<=105190559)(ht:TabN w)(hA:act=yMinus)  :
  Calls Tryz.prog 34 #[.agg (ruleC (ofL act) m false u .nilIface)] w (StP (act++decI m) w):=by
 have HB1:=Lib.hid (alloc_bel w (.cells (ruleC (ofL act) m false u .nilIface) 81))
 have HX1:=Lib.hid (heap_alloc_new w (.cells (ruleC (ofL act) m false u .nilIface) 81))
 have E1:=Lib.hid (act_eq act [43])
 have E2:=Lib.hid (act_eq act [45])
 have E3:=Lib.hid (act_eq act [61])
 have HD1:=Lib.hid (fun wx (hx:Below w.heap.size w wx)=>asc_digits m (by omega) (by omega) wx (ht.below hx))
 have HD2:=Lib.hid (fun wx (hx:Below w.heap.size w wx)=>asc_digits u (by omega) (by omega) wx (ht.below hx))
 have hd1:=decI_len hm
 have hd2:(decI u).length<=10:=by
  obtain⟨U,rfl⟩:∃U:Nat,u=(U:Int):=⟨u.toNat,by omega⟩
  rw[decI_nat];have:=dec_len_lt 9 U (by omega);omega
 have HV:=Lib.hid (show(ofL act++ofL (decI m))=ofL (act++decI m) from by
  show(ofL act++ofL (decI m))=_
  rw[ofL_append])
 obtain⟨AS,hAS⟩:∃AS,ofL act=AS:=⟨_,rfl⟩
 have HAS:=Lib.hid hAS
 obtain⟨D1,hD1⟩:∃D,ofL (decI m)=D:=⟨_,rfl⟩
 obtain⟨D2,hD2⟩:∃D,ofL (decI u)=D:=⟨_,rfl⟩
 have hAz:AS.size<=100:=by rw[<-hAS,ofL_size];exact hal
 have hDz:D1.size<=100:=by rw[<-hD1,ofL_size];omega
 have hEz:D2.size<=100:=by rw[<-hD2,ofL_size];omega
 rw[hAS]at HB1 HX1 E1 E2 E3
 rw[hD1]at HD1
 rw[hD2]at HD2
 rw[hAS,hD1]at HV
 rw[hAS]
 have t1:(AS.toList == [43])=false:=by rw[E1.out,hA];decide
 have t2:(AS.toList == [45])=true:=by rw[E2.out,hA];decide
 clear hA hAS hD1 hD2 hd1 hd2 ht hal
 go_enter Tryz.func34,Tryz.ntmps34
 go_upto_region 1 with fail
 generalize w.alloc (.cells (ruleC AS m false u .nilIface) 81)=W at *
 have hz1:=heap_lt HX1.out
 have HOLD:=Lib.hid (fun wx (hx:Below W.heap.size W wx)=>(hx.block _ hz1).trans HX1.out)
 have c0:W.cell? ⟨w.heap.size,0,none⟩=some (.string AS):=by rw[Lib.cell_of_heap HX1.out];rfl
 have c1:W.cell? ⟨w.heap.size,1,none⟩=some (.int .i64 m):=by rw[Lib.cell_of_heap HX1.out];rfl
 have c2:W.cell? ⟨w.heap.size,2,none⟩=some (.bool false):=by rw[Lib.cell_of_heap HX1.out];rfl
 have c3:W.cell? ⟨w.heap.size,3,none⟩=some (.int .i64 u):=by rw[Lib.cell_of_heap HX1.out];rfl
 have c4:W.cell? ⟨w.heap.size,4,none⟩=some .nilIface:=by rw[Lib.cell_of_heap HX1.out];rfl
 go_wp2_with (first|(go_at_call 52;(with_reducible refine(HD1.out _ HB1.out).mono ?_);rintro e v1 ⟨rfl,hb1⟩;have HC1:=Lib.hid (HB1.out.trans (hb1.mono HB1.out.size));have c12:=(hb1.cell (p:=⟨w.heap.size,2,none⟩) hz1).trans c2;have c13:=(hb1.cell (p:=⟨w.heap.size,3,none⟩) hz1).trans c3;have c14:=(hb1.cell (p:=⟨w.heap.size,4,none⟩) hz1).trans c4;have hz2:=Nat.lt_of_lt_of_le hz1 hb1.size;clear hb1))
 go_ret
 exact⟨congrArg (fun x=>Ending.returned (Value.string x)) HV.out,HC1.out⟩
set_option maxHeartbeats 8000000 in
set_option maxRecDepth 100000 in
theorem ru_minus01{w:World}{act:Bs}{m u:Int}(hal:act.length<=100)(hm : -10000<=m/\m<=10000)(hu:0<=u/\u<=105190559)(ht:TabN w)(hA:act=yMinus)  :
  Calls Tryz.prog 34 #[.agg (ruleC (ofL act) m true u .nilIface)] w (StP ((act++decI m)++([32,117,110,116,105,108,32]++decI u)) w):=by
 have HB1:=Lib.hid (alloc_bel w (.cells (ruleC (ofL act) m true u .nilIface) 81))
 have HX1:=Lib.hid (heap_alloc_new w (.cells (ruleC (ofL act) m true u .nilIface) 81))
 have E1:=Lib.hid (act_eq act [43])
 have E2:=Lib.hid (act_eq act [45])
 have E3:=Lib.hid (act_eq act [61])
 have HD1:=Lib.hid (fun wx (hx:Below w.heap.size w wx)=>asc_digits m (by omega) (by omega) wx (ht.below hx))
 have HD2:=Lib.hid (fun wx (hx:Below w.heap.size w wx)=>asc_digits u (by omega) (by omega) wx (ht.below hx))
 have hd1:=decI_len hm
 have hd2:(decI u).length<=10:=by
  obtain⟨U,rfl⟩:∃U:Nat,u=(U:Int):=⟨u.toNat,by omega⟩
  rw[decI_nat];have:=dec_len_lt 9 U (by omega);omega
 have HV:=Lib.hid (show((ofL act++ofL (decI m))++((⟨#[32,117,110,116,105,108,32]⟩:ByteArray)++ofL (decI u)))=ofL ((act++decI m)++([32,117,110,116,105,108,32]++decI u)) from by
  show((ofL act++ofL (decI m))++(ofL [32,117,110,116,105,108,32]++ofL (decI u)))=_
  rw[ofL_append,ofL_append,ofL_append])
 obtain⟨AS,hAS⟩:∃AS,ofL act=AS:=⟨_,rfl⟩
 have HAS:=Lib.hid hAS
 obtain⟨D1,hD1⟩:∃D,ofL (decI m)=D:=⟨_,rfl⟩
 obtain⟨D2,hD2⟩:∃D,ofL (decI u)=D:=⟨_,rfl⟩
 have hAz:AS.size<=100:=by rw[<-hAS,ofL_size];exact hal
 have hDz:D1.size<=100:=by rw[<-hD1,ofL_size];omega
 have hEz:D2.size<=100:=by rw[<-hD2,ofL_size];omega
 rw[hAS]at HB1 HX1 E1 E2 E3
 rw[hD1]at HD1
 rw[hD2]at HD2
 rw[hAS,hD1,hD2]at HV
 rw[hAS]
 have t1:(AS.toList == [43])=false:=by rw[E1.out,hA];decide
 have t2:(AS.toList == [45])=true:=by rw[E2.out,hA];decide
 clear hA hAS hD1 hD2 hd1 hd2 ht hal
 go_enter Tryz.func34,Tryz.ntmps34
 go_upto_region 1 with fail
 generalize w.alloc (.cells (ruleC AS m true u .nilIface) 81)=W at *
 have hz1:=heap_lt HX1.out
 have HOLD:=Lib.hid (fun wx (hx:Below W.heap.size W wx)=>(hx.block _ hz1).trans HX1.out)
 have c0:W.cell? ⟨w.heap.size,0,none⟩=some (.string AS):=by rw[Lib.cell_of_heap HX1.out];rfl
 have c1:W.cell? ⟨w.heap.size,1,none⟩=some (.int .i64 m):=by rw[Lib.cell_of_heap HX1.out];rfl
 have c2:W.cell? ⟨w.heap.size,2,none⟩=some (.bool true):=by rw[Lib.cell_of_heap HX1.out];rfl
 have c3:W.cell? ⟨w.heap.size,3,none⟩=some (.int .i64 u):=by rw[Lib.cell_of_heap HX1.out];rfl
 have c4:W.cell? ⟨w.heap.size,4,none⟩=some .nilIface:=by rw[Lib.cell_of_heap HX1.out];rfl
 go_wp2_with (first|(go_at_call 52;(with_reducible refine(HD1.out _ HB1.out).mono ?_);rintro e v1 ⟨rfl,hb1⟩;have HC1:=Lib.hid (HB1.out.trans (hb1.mono HB1.out.size));have c12:=(hb1.cell (p:=⟨w.heap.size,2,none⟩) hz1).trans c2;have c13:=(hb1.cell (p:=⟨w.heap.size,3,none⟩) hz1).trans c3;have c14:=(hb1.cell (p:=⟨w.heap.size,4,none⟩) hz1).trans c4;have hz2:=Nat.lt_of_lt_of_le hz1 hb1.size;clear hb1)|(go_at_call 52;(with_reducible refine(HD2.out _ HC1.out).mono ?_);rintro e v2 ⟨rfl,hb2⟩;have HC2:=Lib.hid (HC1.out.trans (hb2.mono HC1.out.size));have c24:=(hb2.cell (p:=⟨w.heap.size,4,none⟩) hz2).trans c14;clear hb2))
 go_ret
 exact⟨congrArg (fun x=>Ending.returned (Value.string x)) HV.out,HC2.out⟩
set_option maxHeartbeats 8000000 in
set_option maxRecDepth 100000 in
theorem ru_minus10{w:World}{act:Bs}{m u:Int}(hal:act.length<=100)(hm : -10000<=m/\m<=10000)(hu:0<=u/\u<=105190559)(ht:TabN w)(hA:act=yMinus){T:TypeId}{y:Value}{s:Bs}(hs:s.length<=3000000)(hp:∀wx,Below w.heap.size w wx->Calls Tryz.prog 53 #[.iface T y] wx (StP s wx)) :
  Calls Tryz.prog 34 #[.agg (ruleC (ofL act) m false u (.iface T y))] w (StP ((act++decI m)++([32,105,102,32]++s)) w):=by
 have HB1:=Lib.hid (alloc_bel w (.cells (ruleC (ofL act) m false u (.iface T y)) 81))
 have HX1:=Lib.hid (heap_alloc_new w (.cells (ruleC (ofL act) m false u (.iface T y)) 81))
 have E1:=Lib.hid (act_eq act [43])
 have E2:=Lib.hid (act_eq act [45])
 have E3:=Lib.hid (act_eq act [61])
 have HD1:=Lib.hid (fun wx (hx:Below w.heap.size w wx)=>asc_digits m (by omega) (by omega) wx (ht.below hx))
 have HD2:=Lib.hid (fun wx (hx:Below w.heap.size w wx)=>asc_digits u (by omega) (by omega) wx (ht.below hx))
 have hd1:=decI_len hm
 have hd2:(decI u).length<=10:=by
  obtain⟨U,rfl⟩:∃U:Nat,u=(U:Int):=⟨u.toNat,by omega⟩
  rw[decI_nat];have:=dec_len_lt 9 U (by omega);omega
 have HV:=Lib.hid (show((ofL act++ofL (decI m))++((⟨#[32,105,102,32]⟩:ByteArray)++ofL s))=ofL ((act++decI m)++([32,105,102,32]++s)) from by
  show((ofL act++ofL (decI m))++(ofL [32,105,102,32]++ofL s))=_
  rw[ofL_append,ofL_append,ofL_append])
 obtain⟨AS,hAS⟩:∃AS,ofL act=AS:=⟨_,rfl⟩
 have HAS:=Lib.hid hAS
 obtain⟨D1,hD1⟩:∃D,ofL (decI m)=D:=⟨_,rfl⟩
 obtain⟨D2,hD2⟩:∃D,ofL (decI u)=D:=⟨_,rfl⟩
 have hAz:AS.size<=100:=by rw[<-hAS,ofL_size];exact hal
 have hDz:D1.size<=100:=by rw[<-hD1,ofL_size];omega
 have hEz:D2.size<=100:=by rw[<-hD2,ofL_size];omega
 rw[hAS]at HB1 HX1 E1 E2 E3
 rw[hD1]at HD1
 rw[hD2]at HD2
 rw[hAS,hD1]at HV
 rw[hAS]
 have HP:=Lib.hid hp
 unfold StP at HP
 obtain⟨PS,hPS⟩:∃PS,ofL s=PS:=⟨_,rfl⟩
 have hPz:PS.size<=3000000:=by rw[<-hPS,ofL_size];exact hs
 rw[hPS]at HP HV
 clear hp hs hPS
 have t1:(AS.toList == [43])=false:=by rw[E1.out,hA];decide
 have t2:(AS.toList == [45])=true:=by rw[E2.out,hA];decide
 clear hA hAS hD1 hD2 hd1 hd2 ht hal
 go_enter Tryz.func34,Tryz.ntmps34
 go_upto_region 1 with fail
 generalize w.alloc (.cells (ruleC AS m false u (.iface T y)) 81)=W at *
 have hz1:=heap_lt HX1.out
 have HOLD:=Lib.hid (fun wx (hx:Below W.heap.size W wx)=>(hx.block _ hz1).trans HX1.out)
 have c0:W.cell? ⟨w.heap.size,0,none⟩=some (.string AS):=by rw[Lib.cell_of_heap HX1.out];rfl
 have c1:W.cell? ⟨w.heap.size,1,none⟩=some (.int .i64 m):=by rw[Lib.cell_of_heap HX1.out];rfl
 have c2:W.cell? ⟨w.heap.size,2,none⟩=some (.bool false):=by rw[Lib.cell_of_heap HX1.out];rfl
 have c3:W.cell? ⟨w.heap.size,3,none⟩=some (.int .i64 u):=by rw[Lib.cell_of_heap HX1.out];rfl
 have c4:W.cell? ⟨w.heap.size,4,none⟩=some (.iface T y):=by rw[Lib.cell_of_heap HX1.out];rfl
 go_wp2_with (first|(go_at_call 52;(with_reducible refine(HD1.out _ HB1.out).mono ?_);rintro e v1 ⟨rfl,hb1⟩;have HC1:=Lib.hid (HB1.out.trans (hb1.mono HB1.out.size));have c12:=(hb1.cell (p:=⟨w.heap.size,2,none⟩) hz1).trans c2;have c13:=(hb1.cell (p:=⟨w.heap.size,3,none⟩) hz1).trans c3;have c14:=(hb1.cell (p:=⟨w.heap.size,4,none⟩) hz1).trans c4;have hz2:=Nat.lt_of_lt_of_le hz1 hb1.size;clear hb1)|(go_at_call 53;(with_reducible refine(HP.out _ HC1.out).mono ?_);rintro e v3 ⟨rfl,hb3⟩;have HC3:=Lib.hid (HC1.out.trans (hb3.mono HC1.out.size));clear hb3))
 go_ret
 exact⟨congrArg (fun x=>Ending.returned (Value.string x)) HV.out,HC3.out⟩
set_option maxHeartbeats 8000000 in
set_option maxRecDepth 100000 in
theorem ru_minus11{w:World}{act:Bs}{m u:Int}(hal:act.length<=100)(hm : -10000<=m/\m<=10000)(hu:0<=u/\u<=105190559)(ht:TabN w)(hA:act=yMinus){T:TypeId}{y:Value}{s:Bs}(hs:s.length<=3000000)(hp:∀wx,Below w.heap.size w wx->Calls Tryz.prog 53 #[.iface T y] wx (StP s wx)) :
  Calls Tryz.prog 34 #[.agg (ruleC (ofL act) m true u (.iface T y))] w (StP (((act++decI m)++([32,117,110,116,105,108,32]++decI u))++([32,105,102,32]++s)) w):=by
 have HB1:=Lib.hid (alloc_bel w (.cells (ruleC (ofL act) m true u (.iface T y)) 81))
 have HX1:=Lib.hid (heap_alloc_new w (.cells (ruleC (ofL act) m true u (.iface T y)) 81))
 have E1:=Lib.hid (act_eq act [43])
 have E2:=Lib.hid (act_eq act [45])
 have E3:=Lib.hid (act_eq act [61])
 have HD1:=Lib.hid (fun wx (hx:Below w.heap.size w wx)=>asc_digits m (by omega) (by omega) wx (ht.below hx))
 have HD2:=Lib.hid (fun wx (hx:Below w.heap.size w wx)=>asc_digits u (by omega) (by omega) wx (ht.below hx))
 have hd1:=decI_len hm
 have hd2:(decI u).length<=10:=by
  obtain⟨U,rfl⟩:∃U:Nat,u=(U:Int):=⟨u.toNat,by omega⟩
  rw[decI_nat];have:=dec_len_lt 9 U (by omega);omega
 have HV:=Lib.hid (show(((ofL act++ofL (decI m))++((⟨#[32,117,110,116,105,108,32]⟩:ByteArray)++ofL (decI u)))++((⟨#[32,105,102,32]⟩:ByteArray)++ofL s))=ofL (((act++decI m)++([32,117,110,116,105,108,32]++decI u))++([32,105,102,32]++s)) from by
  show(((ofL act++ofL (decI m))++(ofL [32,117,110,116,105,108,32]++ofL (decI u)))++(ofL [32,105,102,32]++ofL s))=_
  rw[ofL_append,ofL_append,ofL_append,ofL_append,ofL_append])
 obtain⟨AS,hAS⟩:∃AS,ofL act=AS:=⟨_,rfl⟩
 have HAS:=Lib.hid hAS
 obtain⟨D1,hD1⟩:∃D,ofL (decI m)=D:=⟨_,rfl⟩
 obtain⟨D2,hD2⟩:∃D,ofL (decI u)=D:=⟨_,rfl⟩
 have hAz:AS.size<=100:=by rw[<-hAS,ofL_size];exact hal
 have hDz:D1.size<=100:=by rw[<-hD1,ofL_size];omega
 have hEz:D2.size<=100:=by rw[<-hD2,ofL_size];omega
 rw[hAS]at HB1 HX1 E1 E2 E3
 rw[hD1]at HD1
 rw[hD2]at HD2
 rw[hAS,hD1,hD2]at HV
 rw[hAS]
 have HP:=Lib.hid hp
 unfold StP at HP
 obtain⟨PS,hPS⟩:∃PS,ofL s=PS:=⟨_,rfl⟩
 have hPz:PS.size<=3000000:=by rw[<-hPS,ofL_size];exact hs
 rw[hPS]at HP HV
 clear hp hs hPS
 have t1:(AS.toList == [43])=false:=by rw[E1.out,hA];decide
 have t2:(AS.toList == [45])=true:=by rw[E2.out,hA];decide
 clear hA hAS hD1 hD2 hd1 hd2 ht hal
 go_enter Tryz.func34,Tryz.ntmps34
 go_upto_region 1 with fail
 generalize w.alloc (.cells (ruleC AS m true u (.iface T y)) 81)=W at *
 have hz1:=heap_lt HX1.out
 have HOLD:=Lib.hid (fun wx (hx:Below W.heap.size W wx)=>(hx.block _ hz1).trans HX1.out)
 have c0:W.cell? ⟨w.heap.size,0,none⟩=some (.string AS):=by rw[Lib.cell_of_heap HX1.out];rfl
 have c1:W.cell? ⟨w.heap.size,1,none⟩=some (.int .i64 m):=by rw[Lib.cell_of_heap HX1.out];rfl
 have c2:W.cell? ⟨w.heap.size,2,none⟩=some (.bool true):=by rw[Lib.cell_of_heap HX1.out];rfl
 have c3:W.cell? ⟨w.heap.size,3,none⟩=some (.int .i64 u):=by rw[Lib.cell_of_heap HX1.out];rfl
 have c4:W.cell? ⟨w.heap.size,4,none⟩=some (.iface T y):=by rw[Lib.cell_of_heap HX1.out];rfl
 go_wp2_with (first|(go_at_call 52;(with_reducible refine(HD1.out _ HB1.out).mono ?_);rintro e v1 ⟨rfl,hb1⟩;have HC1:=Lib.hid (HB1.out.trans (hb1.mono HB1.out.size));have c12:=(hb1.cell (p:=⟨w.heap.size,2,none⟩) hz1).trans c2;have c13:=(hb1.cell (p:=⟨w.heap.size,3,none⟩) hz1).trans c3;have c14:=(hb1.cell (p:=⟨w.heap.size,4,none⟩) hz1).trans c4;have hz2:=Nat.lt_of_lt_of_le hz1 hb1.size;clear hb1)|(go_at_call 52;(with_reducible refine(HD2.out _ HC1.out).mono ?_);rintro e v2 ⟨rfl,hb2⟩;have HC2:=Lib.hid (HC1.out.trans (hb2.mono HC1.out.size));have c24:=(hb2.cell (p:=⟨w.heap.size,4,none⟩) hz2).trans c14;clear hb2)|(go_at_call 53;(with_reducible refine(HP.out _ HC2.out).mono ?_);rintro e v3 ⟨rfl,hb3⟩;have HC3:=Lib.hid (HC2.out.trans (hb3.mono HC2.out.size));clear hb3))
 go_ret
 exact⟨congrArg (fun x=>Ending.returned (Value.string x)) HV.out,HC3.out⟩
set_option maxHeartbeats 8000000 in
set_option maxRecDepth 100000 in
theorem ru_eq00{w:World}{act:Bs}{m u:Int}(hal:act.length<=100)(hm : -10000<=m/\m<=10000)(hu:0<=u/\u<=105190559)(ht:TabN w)(hA:act=yEq)  :
  Calls Tryz.prog 34 #[.agg (ruleC (ofL act) m false u .nilIface)] w (StP (act++decI m) w):=by
 have HB1:=Lib.hid (alloc_bel w (.cells (ruleC (ofL act) m false u .nilIface) 81))
 have HX1:=Lib.hid (heap_alloc_new w (.cells (ruleC (ofL act) m false u .nilIface) 81))
 have E1:=Lib.hid (act_eq act [43])
 have E2:=Lib.hid (act_eq act [45])
 have E3:=Lib.hid (act_eq act [61])
 have HD1:=Lib.hid (fun wx (hx:Below w.heap.size w wx)=>asc_digits m (by omega) (by omega) wx (ht.below hx))
 have HD2:=Lib.hid (fun wx (hx:Below w.heap.size w wx)=>asc_digits u (by omega) (by omega) wx (ht.below hx))
 have hd1:=decI_len hm
 have hd2:(decI u).length<=10:=by
  obtain⟨U,rfl⟩:∃U:Nat,u=(U:Int):=⟨u.toNat,by omega⟩
  rw[decI_nat];have:=dec_len_lt 9 U (by omega);omega
 have HV:=Lib.hid (show(ofL act++ofL (decI m))=ofL (act++decI m) from by
  show(ofL act++ofL (decI m))=_
  rw[ofL_append])
 obtain⟨AS,hAS⟩:∃AS,ofL act=AS:=⟨_,rfl⟩
 have HAS:=Lib.hid hAS
 obtain⟨D1,hD1⟩:∃D,ofL (decI m)=D:=⟨_,rfl⟩
 obtain⟨D2,hD2⟩:∃D,ofL (decI u)=D:=⟨_,rfl⟩
 have hAz:AS.size<=100:=by rw[<-hAS,ofL_size];exact hal
 have hDz:D1.size<=100:=by rw[<-hD1,ofL_size];omega
 have hEz:D2.size<=100:=by rw[<-hD2,ofL_size];omega
 rw[hAS]at HB1 HX1 E1 E2 E3
 rw[hD1]at HD1
 rw[hD2]at HD2
 rw[hAS,hD1]at HV
 rw[hAS]
 have t1:(AS.toList == [43])=false:=by rw[E1.out,hA];decide
 have t2:(AS.toList == [45])=false:=by rw[E2.out,hA];decide
 have t3:(AS.toList == [61])=true:=by rw[E3.out,hA];decide
 clear hA hAS hD1 hD2 hd1 hd2 ht hal
 go_enter Tryz.func34,Tryz.ntmps34
 go_upto_region 1 with fail
 generalize w.alloc (.cells (ruleC AS m false u .nilIface) 81)=W at *
 have hz1:=heap_lt HX1.out
 have HOLD:=Lib.hid (fun wx (hx:Below W.heap.size W wx)=>(hx.block _ hz1).trans HX1.out)
 have c0:W.cell? ⟨w.heap.size,0,none⟩=some (.string AS):=by rw[Lib.cell_of_heap HX1.out];rfl
 have c1:W.cell? ⟨w.heap.size,1,none⟩=some (.int .i64 m):=by rw[Lib.cell_of_heap HX1.out];rfl
 have c2:W.cell? ⟨w.heap.size,2,none⟩=some (.bool false):=by rw[Lib.cell_of_heap HX1.out];rfl
 have c3:W.cell? ⟨w.heap.size,3,none⟩=some (.int .i64 u):=by rw[Lib.cell_of_heap HX1.out];rfl
 have c4:W.cell? ⟨w.heap.size,4,none⟩=some .nilIface:=by rw[Lib.cell_of_heap HX1.out];rfl
 go_wp2_with (first|(go_at_call 52;(with_reducible refine(HD1.out _ HB1.out).mono ?_);rintro e v1 ⟨rfl,hb1⟩;have HC1:=Lib.hid (HB1.out.trans (hb1.mono HB1.out.size));have c12:=(hb1.cell (p:=⟨w.heap.size,2,none⟩) hz1).trans c2;have c13:=(hb1.cell (p:=⟨w.heap.size,3,none⟩) hz1).trans c3;have c14:=(hb1.cell (p:=⟨w.heap.size,4,none⟩) hz1).trans c4;have hz2:=Nat.lt_of_lt_of_le hz1 hb1.size;clear hb1))
 go_ret
 exact⟨congrArg (fun x=>Ending.returned (Value.string x)) HV.out,HC1.out⟩
set_option maxHeartbeats 8000000 in
set_option maxRecDepth 100000 in
theorem ru_eq01{w:World}{act:Bs}{m u:Int}(hal:act.length<=100)(hm : -10000<=m/\m<=10000)(hu:0<=u/\u<=105190559)(ht:TabN w)(hA:act=yEq)  :
  Calls Tryz.prog 34 #[.agg (ruleC (ofL act) m true u .nilIface)] w (StP ((act++decI m)++([32,117,110,116,105,108,32]++decI u)) w):=by
 have HB1:=Lib.hid (alloc_bel w (.cells (ruleC (ofL act) m true u .nilIface) 81))
 have HX1:=Lib.hid (heap_alloc_new w (.cells (ruleC (ofL act) m true u .nilIface) 81))
 have E1:=Lib.hid (act_eq act [43])
 have E2:=Lib.hid (act_eq act [45])
 have E3:=Lib.hid (act_eq act [61])
 have HD1:=Lib.hid (fun wx (hx:Below w.heap.size w wx)=>asc_digits m (by omega) (by omega) wx (ht.below hx))
 have HD2:=Lib.hid (fun wx (hx:Below w.heap.size w wx)=>asc_digits u (by omega) (by omega) wx (ht.below hx))
 have hd1:=decI_len hm
 have hd2:(decI u).length<=10:=by
  obtain⟨U,rfl⟩:∃U:Nat,u=(U:Int):=⟨u.toNat,by omega⟩
  rw[decI_nat];have:=dec_len_lt 9 U (by omega);omega
 have HV:=Lib.hid (show((ofL act++ofL (decI m))++((⟨#[32,117,110,116,105,108,32]⟩:ByteArray)++ofL (decI u)))=ofL ((act++decI m)++([32,117,110,116,105,108,32]++decI u)) from by
  show((ofL act++ofL (decI m))++(ofL [32,117,110,116,105,108,32]++ofL (decI u)))=_
  rw[ofL_append,ofL_append,ofL_append])
 obtain⟨AS,hAS⟩:∃AS,ofL act=AS:=⟨_,rfl⟩
 have HAS:=Lib.hid hAS
 obtain⟨D1,hD1⟩:∃D,ofL (decI m)=D:=⟨_,rfl⟩
 obtain⟨D2,hD2⟩:∃D,ofL (decI u)=D:=⟨_,rfl⟩
 have hAz:AS.size<=100:=by rw[<-hAS,ofL_size];exact hal
 have hDz:D1.size<=100:=by rw[<-hD1,ofL_size];omega
 have hEz:D2.size<=100:=by rw[<-hD2,ofL_size];omega
 rw[hAS]at HB1 HX1 E1 E2 E3
 rw[hD1]at HD1
 rw[hD2]at HD2
 rw[hAS,hD1,hD2]at HV
 rw[hAS]
 have t1:(AS.toList == [43])=false:=by rw[E1.out,hA];decide
 have t2:(AS.toList == [45])=false:=by rw[E2.out,hA];decide
 have t3:(AS.toList == [61])=true:=by rw[E3.out,hA];decide
 clear hA hAS hD1 hD2 hd1 hd2 ht hal
 go_enter Tryz.func34,Tryz.ntmps34
 go_upto_region 1 with fail
 generalize w.alloc (.cells (ruleC AS m true u .nilIface) 81)=W at *
 have hz1:=heap_lt HX1.out
 have HOLD:=Lib.hid (fun wx (hx:Below W.heap.size W wx)=>(hx.block _ hz1).trans HX1.out)
 have c0:W.cell? ⟨w.heap.size,0,none⟩=some (.string AS):=by rw[Lib.cell_of_heap HX1.out];rfl
 have c1:W.cell? ⟨w.heap.size,1,none⟩=some (.int .i64 m):=by rw[Lib.cell_of_heap HX1.out];rfl
 have c2:W.cell? ⟨w.heap.size,2,none⟩=some (.bool true):=by rw[Lib.cell_of_heap HX1.out];rfl
 have c3:W.cell? ⟨w.heap.size,3,none⟩=some (.int .i64 u):=by rw[Lib.cell_of_heap HX1.out];rfl
 have c4:W.cell? ⟨w.heap.size,4,none⟩=some .nilIface:=by rw[Lib.cell_of_heap HX1.out];rfl
 go_wp2_with (first|(go_at_call 52;(with_reducible refine(HD1.out _ HB1.out).mono ?_);rintro e v1 ⟨rfl,hb1⟩;have HC1:=Lib.hid (HB1.out.trans (hb1.mono HB1.out.size));have c12:=(hb1.cell (p:=⟨w.heap.size,2,none⟩) hz1).trans c2;have c13:=(hb1.cell (p:=⟨w.heap.size,3,none⟩) hz1).trans c3;have c14:=(hb1.cell (p:=⟨w.heap.size,4,none⟩) hz1).trans c4;have hz2:=Nat.lt_of_lt_of_le hz1 hb1.size;clear hb1)|(go_at_call 52;(with_reducible refine(HD2.out _ HC1.out).mono ?_);rintro e v2 ⟨rfl,hb2⟩;have HC2:=Lib.hid (HC1.out.trans (hb2.mono HC1.out.size));have c24:=(hb2.cell (p:=⟨w.heap.size,4,none⟩) hz2).trans c14;clear hb2))
 go_ret
 exact⟨congrArg (fun x=>Ending.returned (Value.string x)) HV.out,HC2.out⟩
set_option maxHeartbeats 8000000 in
set_option maxRecDepth 100000 in
theorem ru_eq10{w:World}{act:Bs}{m u:Int}(hal:act.length<=100)(hm : -10000<=m/\m<=10000)(hu:0<=u/\u<=105190559)(ht:TabN w)(hA:act=yEq){T:TypeId}{y:Value}{s:Bs}(hs:s.length<=3000000)(hp:∀wx,Below w.heap.size w wx->Calls Tryz.prog 53 #[.iface T y] wx (StP s wx)) :
  Calls Tryz.prog 34 #[.agg (ruleC (ofL act) m false u (.iface T y))] w (StP ((act++decI m)++([32,105,102,32]++s)) w):=by
 have HB1:=Lib.hid (alloc_bel w (.cells (ruleC (ofL act) m false u (.iface T y)) 81))
 have HX1:=Lib.hid (heap_alloc_new w (.cells (ruleC (ofL act) m false u (.iface T y)) 81))
 have E1:=Lib.hid (act_eq act [43])
 have E2:=Lib.hid (act_eq act [45])
 have E3:=Lib.hid (act_eq act [61])
 have HD1:=Lib.hid (fun wx (hx:Below w.heap.size w wx)=>asc_digits m (by omega) (by omega) wx (ht.below hx))
 have HD2:=Lib.hid (fun wx (hx:Below w.heap.size w wx)=>asc_digits u (by omega) (by omega) wx (ht.below hx))
 have hd1:=decI_len hm
 have hd2:(decI u).length<=10:=by
  obtain⟨U,rfl⟩:∃U:Nat,u=(U:Int):=⟨u.toNat,by omega⟩
  rw[decI_nat];have:=dec_len_lt 9 U (by omega);omega
 have HV:=Lib.hid (show((ofL act++ofL (decI m))++((⟨#[32,105,102,32]⟩:ByteArray)++ofL s))=ofL ((act++decI m)++([32,105,102,32]++s)) from by
  show((ofL act++ofL (decI m))++(ofL [32,105,102,32]++ofL s))=_
  rw[ofL_append,ofL_append,ofL_append])
 obtain⟨AS,hAS⟩:∃AS,ofL act=AS:=⟨_,rfl⟩
 have HAS:=Lib.hid hAS
 obtain⟨D1,hD1⟩:∃D,ofL (decI m)=D:=⟨_,rfl⟩
 obtain⟨D2,hD2⟩:∃D,ofL (decI u)=D:=⟨_,rfl⟩
 have hAz:AS.size<=100:=by rw[<-hAS,ofL_size];exact hal
 have hDz:D1.size<=100:=by rw[<-hD1,ofL_size];omega
 have hEz:D2.size<=100:=by rw[<-hD2,ofL_size];omega
 rw[hAS]at HB1 HX1 E1 E2 E3
 rw[hD1]at HD1
 rw[hD2]at HD2
 rw[hAS,hD1]at HV
 rw[hAS]
 have HP:=Lib.hid hp
 unfold StP at HP
 obtain⟨PS,hPS⟩:∃PS,ofL s=PS:=⟨_,rfl⟩
 have hPz:PS.size<=3000000:=by rw[<-hPS,ofL_size];exact hs
 rw[hPS]at HP HV
 clear hp hs hPS
 have t1:(AS.toList == [43])=false:=by rw[E1.out,hA];decide
 have t2:(AS.toList == [45])=false:=by rw[E2.out,hA];decide
 have t3:(AS.toList == [61])=true:=by rw[E3.out,hA];decide
 clear hA hAS hD1 hD2 hd1 hd2 ht hal
 go_enter Tryz.func34,Tryz.ntmps34
 go_upto_region 1 with fail
 generalize w.alloc (.cells (ruleC AS m false u (.iface T y)) 81)=W at *
 have hz1:=heap_lt HX1.out
 have HOLD:=Lib.hid (fun wx (hx:Below W.heap.size W wx)=>(hx.block _ hz1).trans HX1.out)
 have c0:W.cell? ⟨w.heap.size,0,none⟩=some (.string AS):=by rw[Lib.cell_of_heap HX1.out];rfl
 have c1:W.cell? ⟨w.heap.size,1,none⟩=some (.int .i64 m):=by rw[Lib.cell_of_heap HX1.out];rfl
 have c2:W.cell? ⟨w.heap.size,2,none⟩=some (.bool false):=by rw[Lib.cell_of_heap HX1.out];rfl
 have c3:W.cell? ⟨w.heap.size,3,none⟩=some (.int .i64 u):=by rw[Lib.cell_of_heap HX1.out];rfl
 have c4:W.cell? ⟨w.heap.size,4,none⟩=some (.iface T y):=by rw[Lib.cell_of_heap HX1.out];rfl
 go_wp2_with (first|(go_at_call 52;(with_reducible refine(HD1.out _ HB1.out).mono ?_);rintro e v1 ⟨rfl,hb1⟩;have HC1:=Lib.hid (HB1.out.trans (hb1.mono HB1.out.size));have c12:=(hb1.cell (p:=⟨w.heap.size,2,none⟩) hz1).trans c2;have c13:=(hb1.cell (p:=⟨w.heap.size,3,none⟩) hz1).trans c3;have c14:=(hb1.cell (p:=⟨w.heap.size,4,none⟩) hz1).trans c4;have hz2:=Nat.lt_of_lt_of_le hz1 hb1.size;clear hb1)|(go_at_call 53;(with_reducible refine(HP.out _ HC1.out).mono ?_);rintro e v3 ⟨rfl,hb3⟩;have HC3:=Lib.hid (HC1.out.trans (hb3.mono HC1.out.size));clear hb3))
 go_ret
 exact⟨congrArg (fun x=>Ending.returned (Value.string x)) HV.out,HC3.out⟩
set_option maxHeartbeats 8000000 in
set_option maxRecDepth 100000 in
theorem ru_eq11{w:World}{act:Bs}{m u:Int}(hal:act.length<=100)(hm : -10000<=m/\m<=10000)(hu:0<=u/\u<=105190559)(ht:TabN w)(hA:act=yEq){T:TypeId}{y:Value}{s:Bs}(hs:s.length<=3000000)(hp:∀wx,Below w.heap.size w wx->Calls Tryz.prog 53 #[.iface T y] wx (StP s wx)) :
  Calls Tryz.prog 34 #[.agg (ruleC (ofL act) m true u (.iface T y))] w (StP (((act++decI m)++([32,117,110,116,105,108,32]++decI u))++([32,105,102,32]++s)) w):=by
 have HB1:=Lib.hid (alloc_bel w (.cells (ruleC (ofL act) m true u (.iface T y)) 81))
 have HX1:=Lib.hid (heap_alloc_new w (.cells (ruleC (ofL act) m true u (.iface T y)) 81))
 have E1:=Lib.hid (act_eq act [43])
 have E2:=Lib.hid (act_eq act [45])
 have E3:=Lib.hid (act_eq act [61])
 have HD1:=Lib.hid (fun wx (hx:Below w.heap.size w wx)=>asc_digits m (by omega) (by omega) wx (ht.below hx))
 have HD2:=Lib.hid (fun wx (hx:Below w.heap.size w wx)=>asc_digits u (by omega) (by omega) wx (ht.below hx))
 have hd1:=decI_len hm
 have hd2:(decI u).length<=10:=by
  obtain⟨U,rfl⟩:∃U:Nat,u=(U:Int):=⟨u.toNat,by omega⟩
  rw[decI_nat];have:=dec_len_lt 9 U (by omega);omega
 have HV:=Lib.hid (show(((ofL act++ofL (decI m))++((⟨#[32,117,110,116,105,108,32]⟩:ByteArray)++ofL (decI u)))++((⟨#[32,105,102,32]⟩:ByteArray)++ofL s))=ofL (((act++decI m)++([32,117,110,116,105,108,32]++decI u))++([32,105,102,32]++s)) from by
  show(((ofL act++ofL (decI m))++(ofL [32,117,110,116,105,108,32]++ofL (decI u)))++(ofL [32,105,102,32]++ofL s))=_
  rw[ofL_append,ofL_append,ofL_append,ofL_append,ofL_append])
 obtain⟨AS,hAS⟩:∃AS,ofL act=AS:=⟨_,rfl⟩
 have HAS:=Lib.hid hAS
 obtain⟨D1,hD1⟩:∃D,ofL (decI m)=D:=⟨_,rfl⟩
 obtain⟨D2,hD2⟩:∃D,ofL (decI u)=D:=⟨_,rfl⟩
 have hAz:AS.size<=100:=by rw[<-hAS,ofL_size];exact hal
 have hDz:D1.size<=100:=by rw[<-hD1,ofL_size];omega
 have hEz:D2.size<=100:=by rw[<-hD2,ofL_size];omega
 rw[hAS]at HB1 HX1 E1 E2 E3
 rw[hD1]at HD1
 rw[hD2]at HD2
 rw[hAS,hD1,hD2]at HV
 rw[hAS]
 have HP:=Lib.hid hp
 unfold StP at HP
 obtain⟨PS,hPS⟩:∃PS,ofL s=PS:=⟨_,rfl⟩
 have hPz:PS.size<=3000000:=by rw[<-hPS,ofL_size];exact hs
 rw[hPS]at HP HV
 clear hp hs hPS
 have t1:(AS.toList == [43])=false:=by rw[E1.out,hA];decide
 have t2:(AS.toList == [45])=false:=by rw[E2.out,hA];decide
 have t3:(AS.toList == [61])=true:=by rw[E3.out,hA];decide
 clear hA hAS hD1 hD2 hd1 hd2 ht hal
 go_enter Tryz.func34,Tryz.ntmps34
 go_upto_region 1 with fail
 generalize w.alloc (.cells (ruleC AS m true u (.iface T y)) 81)=W at *
 have hz1:=heap_lt HX1.out
 have HOLD:=Lib.hid (fun wx (hx:Below W.heap.size W wx)=>(hx.block _ hz1).trans HX1.out)
 have c0:W.cell? ⟨w.heap.size,0,none⟩=some (.string AS):=by rw[Lib.cell_of_heap HX1.out];rfl
 have c1:W.cell? ⟨w.heap.size,1,none⟩=some (.int .i64 m):=by rw[Lib.cell_of_heap HX1.out];rfl
 have c2:W.cell? ⟨w.heap.size,2,none⟩=some (.bool true):=by rw[Lib.cell_of_heap HX1.out];rfl
 have c3:W.cell? ⟨w.heap.size,3,none⟩=some (.int .i64 u):=by rw[Lib.cell_of_heap HX1.out];rfl
 have c4:W.cell? ⟨w.heap.size,4,none⟩=some (.iface T y):=by rw[Lib.cell_of_heap HX1.out];rfl
 go_wp2_with (first|(go_at_call 52;(with_reducible refine(HD1.out _ HB1.out).mono ?_);rintro e v1 ⟨rfl,hb1⟩;have HC1:=Lib.hid (HB1.out.trans (hb1.mono HB1.out.size));have c12:=(hb1.cell (p:=⟨w.heap.size,2,none⟩) hz1).trans c2;have c13:=(hb1.cell (p:=⟨w.heap.size,3,none⟩) hz1).trans c3;have c14:=(hb1.cell (p:=⟨w.heap.size,4,none⟩) hz1).trans c4;have hz2:=Nat.lt_of_lt_of_le hz1 hb1.size;clear hb1)|(go_at_call 52;(with_reducible refine(HD2.out _ HC1.out).mono ?_);rintro e v2 ⟨rfl,hb2⟩;have HC2:=Lib.hid (HC1.out.trans (hb2.mono HC1.out.size));have c24:=(hb2.cell (p:=⟨w.heap.size,4,none⟩) hz2).trans c14;clear hb2)|(go_at_call 53;(with_reducible refine(HP.out _ HC2.out).mono ?_);rintro e v3 ⟨rfl,hb3⟩;have HC3:=Lib.hid (HC2.out.trans (hb3.mono HC2.out.size));clear hb3))
 go_ret
 exact⟨congrArg (fun x=>Ending.returned (Value.string x)) HV.out,HC3.out⟩
set_option maxHeartbeats 8000000 in
set_option maxRecDepth 100000 in
theorem ru_word00{w:World}{act:Bs}{m u:Int}(hal:act.length<=100)(hm : -10000<=m/\m<=10000)(hu:0<=u/\u<=105190559)(ht:TabN w)(hA:act≠yPlus/\act≠yMinus/\act≠yEq)  :
  Calls Tryz.prog 34 #[.agg (ruleC (ofL act) m false u .nilIface)] w (StP (act) w):=by
 have HB1:=Lib.hid (alloc_bel w (.cells (ruleC (ofL act) m false u .nilIface) 81))
 have HX1:=Lib.hid (heap_alloc_new w (.cells (ruleC (ofL act) m false u .nilIface) 81))
 have E1:=Lib.hid (act_eq act [43])
 have E2:=Lib.hid (act_eq act [45])
 have E3:=Lib.hid (act_eq act [61])
 have HD1:=Lib.hid (fun wx (hx:Below w.heap.size w wx)=>asc_digits m (by omega) (by omega) wx (ht.below hx))
 have HD2:=Lib.hid (fun wx (hx:Below w.heap.size w wx)=>asc_digits u (by omega) (by omega) wx (ht.below hx))
 have hd1:=decI_len hm
 have hd2:(decI u).length<=10:=by
  obtain⟨U,rfl⟩:∃U:Nat,u=(U:Int):=⟨u.toNat,by omega⟩
  rw[decI_nat];have:=dec_len_lt 9 U (by omega);omega
 have HV:=Lib.hid (show ofL act=ofL (act) from by
  show ofL act=_
  rfl)
 obtain⟨AS,hAS⟩:∃AS,ofL act=AS:=⟨_,rfl⟩
 have HAS:=Lib.hid hAS
 obtain⟨D1,hD1⟩:∃D,ofL (decI m)=D:=⟨_,rfl⟩
 obtain⟨D2,hD2⟩:∃D,ofL (decI u)=D:=⟨_,rfl⟩
 have hAz:AS.size<=100:=by rw[<-hAS,ofL_size];exact hal
 have hDz:D1.size<=100:=by rw[<-hD1,ofL_size];omega
 have hEz:D2.size<=100:=by rw[<-hD2,ofL_size];omega
 rw[hAS]at HB1 HX1 E1 E2 E3
 rw[hD1]at HD1
 rw[hD2]at HD2
 rw[hAS]at HV
 rw[hAS]
 have t1:(AS.toList == [43])=false:=by rw[E1.out];exact decide_eq_false hA.1
 have t2:(AS.toList == [45])=false:=by rw[E2.out];exact decide_eq_false hA.2.1
 have t3:(AS.toList == [61])=false:=by rw[E3.out];exact decide_eq_false hA.2.2
 clear hA hAS hD1 hD2 hd1 hd2 ht hal
 go_enter Tryz.func34,Tryz.ntmps34
 go_upto_region 1 with fail
 generalize w.alloc (.cells (ruleC AS m false u .nilIface) 81)=W at *
 have hz1:=heap_lt HX1.out
 have HOLD:=Lib.hid (fun wx (hx:Below W.heap.size W wx)=>(hx.block _ hz1).trans HX1.out)
 have c0:W.cell? ⟨w.heap.size,0,none⟩=some (.string AS):=by rw[Lib.cell_of_heap HX1.out];rfl
 have c1:W.cell? ⟨w.heap.size,1,none⟩=some (.int .i64 m):=by rw[Lib.cell_of_heap HX1.out];rfl
 have c2:W.cell? ⟨w.heap.size,2,none⟩=some (.bool false):=by rw[Lib.cell_of_heap HX1.out];rfl
 have c3:W.cell? ⟨w.heap.size,3,none⟩=some (.int .i64 u):=by rw[Lib.cell_of_heap HX1.out];rfl
 have c4:W.cell? ⟨w.heap.size,4,none⟩=some .nilIface:=by rw[Lib.cell_of_heap HX1.out];rfl
 go_wp2_with (fail)
 go_ret
 exact⟨congrArg (fun x=>Ending.returned (Value.string x)) HAS.out.symm,HB1.out⟩
set_option maxHeartbeats 8000000 in
set_option maxRecDepth 100000 in
theorem ru_word01{w:World}{act:Bs}{m u:Int}(hal:act.length<=100)(hm : -10000<=m/\m<=10000)(hu:0<=u/\u<=105190559)(ht:TabN w)(hA:act≠yPlus/\act≠yMinus/\act≠yEq)  :
  Calls Tryz.prog 34 #[.agg (ruleC (ofL act) m true u .nilIface)] w (StP ((act)++([32,117,110,116,105,108,32]++decI u)) w):=by
 have HB1:=Lib.hid (alloc_bel w (.cells (ruleC (ofL act) m true u .nilIface) 81))
 have HX1:=Lib.hid (heap_alloc_new w (.cells (ruleC (ofL act) m true u .nilIface) 81))
 have E1:=Lib.hid (act_eq act [43])
 have E2:=Lib.hid (act_eq act [45])
 have E3:=Lib.hid (act_eq act [61])
 have HD1:=Lib.hid (fun wx (hx:Below w.heap.size w wx)=>asc_digits m (by omega) (by omega) wx (ht.below hx))
 have HD2:=Lib.hid (fun wx (hx:Below w.heap.size w wx)=>asc_digits u (by omega) (by omega) wx (ht.below hx))
 have hd1:=decI_len hm
 have hd2:(decI u).length<=10:=by
  obtain⟨U,rfl⟩:∃U:Nat,u=(U:Int):=⟨u.toNat,by omega⟩
  rw[decI_nat];have:=dec_len_lt 9 U (by omega);omega
 have HV:=Lib.hid (show(ofL act++((⟨#[32,117,110,116,105,108,32]⟩:ByteArray)++ofL (decI u)))=ofL ((act)++([32,117,110,116,105,108,32]++decI u)) from by
  show(ofL act++(ofL [32,117,110,116,105,108,32]++ofL (decI u)))=_
  rw[ofL_append,ofL_append])
 obtain⟨AS,hAS⟩:∃AS,ofL act=AS:=⟨_,rfl⟩
 have HAS:=Lib.hid hAS
 obtain⟨D1,hD1⟩:∃D,ofL (decI m)=D:=⟨_,rfl⟩
 obtain⟨D2,hD2⟩:∃D,ofL (decI u)=D:=⟨_,rfl⟩
 have hAz:AS.size<=100:=by rw[<-hAS,ofL_size];exact hal
 have hDz:D1.size<=100:=by rw[<-hD1,ofL_size];omega
 have hEz:D2.size<=100:=by rw[<-hD2,ofL_size];omega
 rw[hAS]at HB1 HX1 E1 E2 E3
 rw[hD1]at HD1
 rw[hD2]at HD2
 rw[hAS,hD2]at HV
 rw[hAS]
 have t1:(AS.toList == [43])=false:=by rw[E1.out];exact decide_eq_false hA.1
 have t2:(AS.toList == [45])=false:=by rw[E2.out];exact decide_eq_false hA.2.1
 have t3:(AS.toList == [61])=false:=by rw[E3.out];exact decide_eq_false hA.2.2
 clear hA hAS hD1 hD2 hd1 hd2 ht hal
 go_enter Tryz.func34,Tryz.ntmps34
 go_upto_region 1 with fail
 generalize w.alloc (.cells (ruleC AS m true u .nilIface) 81)=W at *
 have hz1:=heap_lt HX1.out
 have HOLD:=Lib.hid (fun wx (hx:Below W.heap.size W wx)=>(hx.block _ hz1).trans HX1.out)
 have c0:W.cell? ⟨w.heap.size,0,none⟩=some (.string AS):=by rw[Lib.cell_of_heap HX1.out];rfl
 have c1:W.cell? ⟨w.heap.size,1,none⟩=some (.int .i64 m):=by rw[Lib.cell_of_heap HX1.out];rfl
 have c2:W.cell? ⟨w.heap.size,2,none⟩=some (.bool true):=by rw[Lib.cell_of_heap HX1.out];rfl
 have c3:W.cell? ⟨w.heap.size,3,none⟩=some (.int .i64 u):=by rw[Lib.cell_of_heap HX1.out];rfl
 have c4:W.cell? ⟨w.heap.size,4,none⟩=some .nilIface:=by rw[Lib.cell_of_heap HX1.out];rfl
 go_wp2_with (first|(go_at_call 52;(with_reducible refine(HD2.out _ HB1.out).mono ?_);rintro e v2 ⟨rfl,hb2⟩;have HC2:=Lib.hid (HB1.out.trans (hb2.mono HB1.out.size));have c24:=(hb2.cell (p:=⟨w.heap.size,4,none⟩) hz1).trans c4;clear hb2))
 go_ret
 exact⟨congrArg (fun x=>Ending.returned (Value.string x)) HV.out,HC2.out⟩
set_option maxHeartbeats 8000000 in
set_option maxRecDepth 100000 in
theorem ru_word10{w:World}{act:Bs}{m u:Int}(hal:act.length<=100)(hm : -10000<=m/\m<=10000)(hu:0<=u/\u<=105190559)(ht:TabN w)(hA:act≠yPlus/\act≠yMinus/\act≠yEq){T:TypeId}{y:Value}{s:Bs}(hs:s.length<=3000000)(hp:∀wx,Below w.heap.size w wx->Calls Tryz.prog 53 #[.iface T y] wx (StP s wx)) :
  Calls Tryz.prog 34 #[.agg (ruleC (ofL act) m false u (.iface T y))] w (StP ((act)++([32,105,102,32]++s)) w):=by
 have HB1:=Lib.hid (alloc_bel w (.cells (ruleC (ofL act) m false u (.iface T y)) 81))
 have HX1:=Lib.hid (heap_alloc_new w (.cells (ruleC (ofL act) m false u (.iface T y)) 81))
 have E1:=Lib.hid (act_eq act [43])
 have E2:=Lib.hid (act_eq act [45])
 have E3:=Lib.hid (act_eq act [61])
 have HD1:=Lib.hid (fun wx (hx:Below w.heap.size w wx)=>asc_digits m (by omega) (by omega) wx (ht.below hx))
 have HD2:=Lib.hid (fun wx (hx:Below w.heap.size w wx)=>asc_digits u (by omega) (by omega) wx (ht.below hx))
 have hd1:=decI_len hm
 have hd2:(decI u).length<=10:=by
  obtain⟨U,rfl⟩:∃U:Nat,u=(U:Int):=⟨u.toNat,by omega⟩
  rw[decI_nat];have:=dec_len_lt 9 U (by omega);omega
 have HV:=Lib.hid (show(ofL act++((⟨#[32,105,102,32]⟩:ByteArray)++ofL s))=ofL ((act)++([32,105,102,32]++s)) from by
  show(ofL act++(ofL [32,105,102,32]++ofL s))=_
  rw[ofL_append,ofL_append])
 obtain⟨AS,hAS⟩:∃AS,ofL act=AS:=⟨_,rfl⟩
 have HAS:=Lib.hid hAS
 obtain⟨D1,hD1⟩:∃D,ofL (decI m)=D:=⟨_,rfl⟩
 obtain⟨D2,hD2⟩:∃D,ofL (decI u)=D:=⟨_,rfl⟩
 have hAz:AS.size<=100:=by rw[<-hAS,ofL_size];exact hal
 have hDz:D1.size<=100:=by rw[<-hD1,ofL_size];omega
 have hEz:D2.size<=100:=by rw[<-hD2,ofL_size];omega
 rw[hAS]at HB1 HX1 E1 E2 E3
 rw[hD1]at HD1
 rw[hD2]at HD2
 rw[hAS]at HV
 rw[hAS]
 have HP:=Lib.hid hp
 unfold StP at HP
 obtain⟨PS,hPS⟩:∃PS,ofL s=PS:=⟨_,rfl⟩
 have hPz:PS.size<=3000000:=by rw[<-hPS,ofL_size];exact hs
 rw[hPS]at HP HV
 clear hp hs hPS
 have t1:(AS.toList == [43])=false:=by rw[E1.out];exact decide_eq_false hA.1
 have t2:(AS.toList == [45])=false:=by rw[E2.out];exact decide_eq_false hA.2.1
 have t3:(AS.toList == [61])=false:=by rw[E3.out];exact decide_eq_false hA.2.2
 clear hA hAS hD1 hD2 hd1 hd2 ht hal
 go_enter Tryz.func34,Tryz.ntmps34
 go_upto_region 1 with fail
 generalize w.alloc (.cells (ruleC AS m false u (.iface T y)) 81)=W at *
 have hz1:=heap_lt HX1.out
 have HOLD:=Lib.hid (fun wx (hx:Below W.heap.size W wx)=>(hx.block _ hz1).trans HX1.out)
 have c0:W.cell? ⟨w.heap.size,0,none⟩=some (.string AS):=by rw[Lib.cell_of_heap HX1.out];rfl
 have c1:W.cell? ⟨w.heap.size,1,none⟩=some (.int .i64 m):=by rw[Lib.cell_of_heap HX1.out];rfl
 have c2:W.cell? ⟨w.heap.size,2,none⟩=some (.bool false):=by rw[Lib.cell_of_heap HX1.out];rfl
 have c3:W.cell? ⟨w.heap.size,3,none⟩=some (.int .i64 u):=by rw[Lib.cell_of_heap HX1.out];rfl
 have c4:W.cell? ⟨w.heap.size,4,none⟩=some (.iface T y):=by rw[Lib.cell_of_heap HX1.out];rfl
 go_wp2_with (first|(go_at_call 53;(with_reducible refine(HP.out _ HB1.out).mono ?_);rintro e v3 ⟨rfl,hb3⟩;have HC3:=Lib.hid (HB1.out.trans (hb3.mono HB1.out.size));clear hb3))
 go_ret
 exact⟨congrArg (fun x=>Ending.returned (Value.string x)) HV.out,HC3.out⟩
set_option maxHeartbeats 8000000 in
set_option maxRecDepth 100000 in
theorem ru_word11{w:World}{act:Bs}{m u:Int}(hal:act.length<=100)(hm : -10000<=m/\m<=10000)(hu:0<=u/\u<=105190559)(ht:TabN w)(hA:act≠yPlus/\act≠yMinus/\act≠yEq){T:TypeId}{y:Value}{s:Bs}(hs:s.length<=3000000)(hp:∀wx,Below w.heap.size w wx->Calls Tryz.prog 53 #[.iface T y] wx (StP s wx)) :
  Calls Tryz.prog 34 #[.agg (ruleC (ofL act) m true u (.iface T y))] w (StP (((act)++([32,117,110,116,105,108,32]++decI u))++([32,105,102,32]++s)) w):=by
 have HB1:=Lib.hid (alloc_bel w (.cells (ruleC (ofL act) m true u (.iface T y)) 81))
 have HX1:=Lib.hid (heap_alloc_new w (.cells (ruleC (ofL act) m true u (.iface T y)) 81))
 have E1:=Lib.hid (act_eq act [43])
 have E2:=Lib.hid (act_eq act [45])
 have E3:=Lib.hid (act_eq act [61])
 have HD1:=Lib.hid (fun wx (hx:Below w.heap.size w wx)=>asc_digits m (by omega) (by omega) wx (ht.below hx))
 have HD2:=Lib.hid (fun wx (hx:Below w.heap.size w wx)=>asc_digits u (by omega) (by omega) wx (ht.below hx))
 have hd1:=decI_len hm
 have hd2:(decI u).length<=10:=by
  obtain⟨U,rfl⟩:∃U:Nat,u=(U:Int):=⟨u.toNat,by omega⟩
  rw[decI_nat];have:=dec_len_lt 9 U (by omega);omega
 have HV:=Lib.hid (show((ofL act++((⟨#[32,117,110,116,105,108,32]⟩:ByteArray)++ofL (decI u)))++((⟨#[32,105,102,32]⟩:ByteArray)++ofL s))=ofL (((act)++([32,117,110,116,105,108,32]++decI u))++([32,105,102,32]++s)) from by
  show((ofL act++(ofL [32,117,110,116,105,108,32]++ofL (decI u)))++(ofL [32,105,102,32]++ofL s))=_
  rw[ofL_append,ofL_append,ofL_append,ofL_append])
 obtain⟨AS,hAS⟩:∃AS,ofL act=AS:=⟨_,rfl⟩
 have HAS:=Lib.hid hAS
 obtain⟨D1,hD1⟩:∃D,ofL (decI m)=D:=⟨_,rfl⟩
 obtain⟨D2,hD2⟩:∃D,ofL (decI u)=D:=⟨_,rfl⟩
 have hAz:AS.size<=100:=by rw[<-hAS,ofL_size];exact hal
 have hDz:D1.size<=100:=by rw[<-hD1,ofL_size];omega
 have hEz:D2.size<=100:=by rw[<-hD2,ofL_size];omega
 rw[hAS]at HB1 HX1 E1 E2 E3
 rw[hD1]at HD1
 rw[hD2]at HD2
 rw[hAS,hD2]at HV
 rw[hAS]
 have HP:=Lib.hid hp
 unfold StP at HP
 obtain⟨PS,hPS⟩:∃PS,ofL s=PS:=⟨_,rfl⟩
 have hPz:PS.size<=3000000:=by rw[<-hPS,ofL_size];exact hs
 rw[hPS]at HP HV
 clear hp hs hPS
 have t1:(AS.toList == [43])=false:=by rw[E1.out];exact decide_eq_false hA.1
 have t2:(AS.toList == [45])=false:=by rw[E2.out];exact decide_eq_false hA.2.1
 have t3:(AS.toList == [61])=false:=by rw[E3.out];exact decide_eq_false hA.2.2
 clear hA hAS hD1 hD2 hd1 hd2 ht hal
 go_enter Tryz.func34,Tryz.ntmps34
 go_upto_region 1 with fail
 generalize w.alloc (.cells (ruleC AS m true u (.iface T y)) 81)=W at *
 have hz1:=heap_lt HX1.out
 have HOLD:=Lib.hid (fun wx (hx:Below W.heap.size W wx)=>(hx.block _ hz1).trans HX1.out)
 have c0:W.cell? ⟨w.heap.size,0,none⟩=some (.string AS):=by rw[Lib.cell_of_heap HX1.out];rfl
 have c1:W.cell? ⟨w.heap.size,1,none⟩=some (.int .i64 m):=by rw[Lib.cell_of_heap HX1.out];rfl
 have c2:W.cell? ⟨w.heap.size,2,none⟩=some (.bool true):=by rw[Lib.cell_of_heap HX1.out];rfl
 have c3:W.cell? ⟨w.heap.size,3,none⟩=some (.int .i64 u):=by rw[Lib.cell_of_heap HX1.out];rfl
 have c4:W.cell? ⟨w.heap.size,4,none⟩=some (.iface T y):=by rw[Lib.cell_of_heap HX1.out];rfl
 go_wp2_with (first|(go_at_call 52;(with_reducible refine(HD2.out _ HB1.out).mono ?_);rintro e v2 ⟨rfl,hb2⟩;have HC2:=Lib.hid (HB1.out.trans (hb2.mono HB1.out.size));have c24:=(hb2.cell (p:=⟨w.heap.size,4,none⟩) hz1).trans c4;clear hb2)|(go_at_call 53;(with_reducible refine(HP.out _ HC2.out).mono ?_);rintro e v3 ⟨rfl,hb3⟩;have HC3:=Lib.hid (HC2.out.trans (hb3.mono HC2.out.size));clear hb3))
 go_ret
 exact⟨congrArg (fun x=>Ending.returned (Value.string x)) HV.out,HC3.out⟩
theorem ru_print{w:World}{r:RuleS}{v:Value}{z:Nat}(hc:condO z r.cond v w)(hok:RuleOk r)(hsh:w.ShapedOpen Tryz.prog)(ht:TabN w)(hb:(printR r).length<=3000000) :
  Calls Tryz.prog 34 #[.agg (ruleC (ofL r.act) r.amt r.til.isSome (r.til.getD 0:Nat) v)] w (StP (printR r) w):=by
 have hal:r.act.length<=100:=by have:=acts_len hok.act;omega
 have hu:0<=((r.til.getD 0:Nat):Int)/\((r.til.getD 0:Nat):Int)<=105190559:=by have:=hok.til;omega
 rw[printR_eq]at hb⊢
 have hm:=hok.amt
 clear hok
 obtain⟨act,m,til,cond⟩:=r
 simp only at *
 cases cond with
 | none =>
  obtain rfl:v=.nilIface:=hc
  cases til with
  | none =>
   by_cases h1:act=yPlus
   ·have:=ru_plus00 hal hm hu ht h1
    simpa[h1,tilL,condL] using this
   ·by_cases h2:act=yMinus
    ·have:=ru_minus00 hal hm hu ht h2
     simpa[h2,tilL,condL] using this
    ·by_cases h3:act=yEq
     ·have:=ru_eq00 hal hm hu ht h3
      simpa[h3,tilL,condL] using this
     ·have:=ru_word00 hal hm hu ht ⟨h1,h2,h3⟩
      simpa[h1,h2,h3,tilL,condL] using this
  | some u =>
   simp only[Option.getD_some]at hu
   by_cases h1:act=yPlus
   ·have:=ru_plus01 hal hm hu ht h1
    rw[decI_nat]at this
    simpa[h1,tilL,condL] using this
   ·by_cases h2:act=yMinus
    ·have:=ru_minus01 hal hm hu ht h2
     rw[decI_nat]at this
     simpa[h2,tilL,condL] using this
    ·by_cases h3:act=yEq
     ·have:=ru_eq01 hal hm hu ht h3
      rw[decI_nat]at this
      simpa[h3,tilL,condL] using this
     ·have:=ru_word01 hal hm hu ht ⟨h1,h2,h3⟩
      rw[decI_nat]at this
      simpa[h1,h2,h3,tilL,condL] using this
 | some c =>
  have hc2:CondIn (fun k=>z<=k/\k<w.heap.size) w c v:=hc
  obtain⟨T,y,rfl⟩:=hc2.shape
  have hs:(printF c).length<=3000000:=by
   simp only[condL,List.length_append]at hb;omega
  have hp:=cond_prints hsh ht hc2 hs
  cases til with
  | none =>
   by_cases h1:act=yPlus
   ·have:=ru_plus10 hal hm hu ht h1 hs hp
    simpa[h1,tilL,condL] using this
   ·by_cases h2:act=yMinus
    ·have:=ru_minus10 hal hm hu ht h2 hs hp
     simpa[h2,tilL,condL] using this
    ·by_cases h3:act=yEq
     ·have:=ru_eq10 hal hm hu ht h3 hs hp
      simpa[h3,tilL,condL] using this
     ·have:=ru_word10 hal hm hu ht ⟨h1,h2,h3⟩ hs hp
      simpa[h1,h2,h3,tilL,condL] using this
  | some u =>
   simp only[Option.getD_some]at hu
   by_cases h1:act=yPlus
   ·have:=ru_plus11 hal hm hu ht h1 hs hp
    rw[decI_nat]at this
    simpa[h1,tilL,condL] using this
   ·by_cases h2:act=yMinus
    ·have:=ru_minus11 hal hm hu ht h2 hs hp
     rw[decI_nat]at this
     simpa[h2,tilL,condL] using this
    ·by_cases h3:act=yEq
     ·have:=ru_eq11 hal hm hu ht h3 hs hp
      rw[decI_nat]at this
      simpa[h3,tilL,condL] using this
     ·have:=ru_word11 hal hm hu ht ⟨h1,h2,h3⟩ hs hp
      rw[decI_nat]at this
      simpa[h1,h2,h3,tilL,condL] using this
end Go.Proofs.YtannhfnpigiggaaGreatDoor
namespace Go.Proofs.YtannhfnpigiggaaGreatDoor
set_option linter.unusedSimpArgs false
set_option linter.unusedVariables false
open Go.RowKit
attribute [local go_sem] run_store
theorem printRs_snoc(l:List RuleS)(r:RuleS):printRs (l ++ [r])=(printRs l++printR r) ++ [10]:=by simp[printRs]
theorem printRs_app(a b:List RuleS):printRs (a++b)=printRs a++printRs b:=by simp[printRs]
theorem printRs_take(l:List RuleS)(k:Nat):(printRs (l.take k)).length<=(printRs l).length:=by
 conv=>rhs;rw[<-List.take_append_drop k l]
 rw[printRs_app,List.length_append]
 omega
theorem printR_mem:∀(l:List RuleS) (r:RuleS),r∈l->(printR r).length<=(printRs l).length
 | [],_,h=>by simp at h
 | d::l,r,h=>by
  have e:printRs (d::l)=(printR d ++ [10])++printRs l:=by simp[printRs]
  rw[e,List.length_append,List.length_append]
  rcases List.mem_cons.1 h with rfl|h
  ·omega
  ·have:=printR_mem l r h;omega
set_option maxHeartbeats 1000000 in
theorem sc_len{rb:Nat}{l:List RuleS}{w:World}(h:RulesIn w rb l):Calls Tryz.prog 20 #[.pointer (some ⟨rb,0,none⟩)] w fun e w'=>e=.returned (.int .i64 (l.length:Int))/\w=w':=by
 obtain⟨A,c,vs,h1,_⟩:=h
 have c0:w.cell? ⟨rb,0,none⟩=some (.slice A l.length c):=by rw[Lib.cell_of_heap h1];rfl
 clear h1
 go_enter Tryz.func20,Tryz.ntmps20
 go_wp2_with fail
 go_ret
 exact⟨rfl,rfl⟩
set_option maxHeartbeats 8000000 in
set_option maxRecDepth 100000 in
theorem sc_print{w:World}(hsh:w.ShapedOpen Tryz.prog)(ht:TabN w){rb:Nat}{l:List RuleS}(hr:RulesIn w rb l)(hl:l.length<=1000)(hb:(printRs l).length<=3000000) :
  Calls Tryz.prog 18 #[.pointer (some ⟨rb,0,none⟩)] w (StP (printRs l) w):=by
 have HSH:=Lib.hid hsh
 have HT:=Lib.hid ht
 have HBD:=Lib.hid hb
 obtain⟨A,c,vs,hbx,hrow,hlen,hcap,hcond,hok⟩:=hr
 have HROW:=Lib.hid hrow
 have HLEN:=Lib.hid hlen
 have HCO:=Lib.hid hcond
 have HOK:=Lib.hid hok
 have HB0:=Lib.hid (alloc_bel w (.cells #[.pointer none,.slice none 0 0] 87))
 have HBN:=Lib.hid (bld_new w w.heap.size rfl)
 have c0:(w.alloc (.cells #[.pointer none,.slice none 0 0] 87)).cell? ⟨rb,0,none⟩=some (.slice A l.length c):=by
  rw[Lib.cell_of_heap ((HB0.out.block _ (heap_lt hbx)).trans hbx)];rfl
 clear hsh ht hb hbx hrow hlen hcond hok
 go_enter Tryz.func18,Tryz.ntmps18
 go_upto_region 4 with fail
 generalize w.alloc (.cells #[.pointer none,.slice none 0 0] 87)=W0 at *
 go_wp2_with fail
 go_loopw [13] (fun v13 wr=>∃k:Nat,k<=l.length/\v13=.int .i64 (k:Int)/\Lib.IsBuilder 87 5 w.heap.size w.heap.size (Lib.byteCells (printRs (l.take k))) wr/\Below w.heap.size w wr) (fun v13 _=>l.length-(intOf v13).toNat)
 case atStart=>exact⟨0,by omega,rfl,HBN.out,HB0.out⟩
 case round =>
  obtain⟨k,hk,rfl,hbl,hbe⟩:=hrel
  have HBL:=Lib.hid hbl
  have HBE:=Lib.hid hbe
  obtain⟨wo,rfl⟩:∃wo:World,wo=wr:=⟨_,rfl⟩
  have hzr:=hbe.size
  clear hbl hbe HBN HB0
  have k0:(0:Int)<=(k:Int):=by omega
  by_cases hlt:k<l.length
  ·have k1:(k:Int)<(l.length:Int):=by omega
   have hlv:k<vs.length:=by rw[HLEN.out];exact hlt
   obtain⟨bb,off,rfl,hbb,d0,d1,d2,d3,d4⟩:=rus_at (HROW.out.below HBE.out) HLEN.out hlt hlv
   have HC1:=Lib.hid (condO_below (HCO.out k hlt hlv) HBE.out)
   have hrk:=HOK.out l[k] (List.getElem_mem hlt)
   have hbr:=printR_mem l l[k] (List.getElem_mem hlt)
   have HTK:=Lib.hid (show printRs (l.take (k+1))=(printRs (l.take k)++printR l[k]) ++ [10] from by rw[List.take_succ_eq_append_getElem hlt,printRs_snoc])
   have htk:=printRs_take l (k+1)
   rw[HTK.out]at htk
   simp only[List.length_append,List.length_cons,List.length_nil]at htk
   have hbd:=HBD.out
   have HRK:=Lib.hid hrk
   clear hrk
   generalize vs[k]=v at *
   generalize l[k]=r at *
   have hv1:=condO_one HC1.out
   obtain⟨AS,hAS⟩:∃AS,ofL r.act=AS:=⟨_,rfl⟩
   have HAS:=Lib.hid hAS
   rw[hAS]at d0
   clear hAS
   go_upto_region 7 with fail
   have HB3:=Lib.hid (alloc_bel wo (.cells (ruleC AS r.amt r.til.isSome (r.til.getD 0:Nat) v) 81))
   have HX3:=Lib.hid (heap_alloc_new wo (.cells (ruleC AS r.amt r.til.isSome (r.til.getD 0:Nat) v) 81))
   have HC3:=Lib.hid (condO_below HC1.out HB3.out)
   have HBL3:=Lib.hid (bld_below HBL.out HB3.out)
   have HBE3:=Lib.hid (HBE.out.trans (HB3.out.mono hzr))
   clear d0 d1 d2 d3 d4
   generalize wo.alloc (.cells (ruleC AS r.amt r.til.isSome (r.til.getD 0:Nat) v) 81)=W3 at *
   have hRP:=ru_print (w:=W3) HC3.out HRK.out (shaped_below HSH.out HBE3.out) (HT.out.below HBE3.out) (by omega)
   rw[HAS.out]at hRP
   unfold StP at hRP
   obtain⟨PS,hPS⟩:∃PS,ofL (printR r)=PS:=⟨_,rfl⟩
   have HPS:=Lib.hid (show toL PS=printR r from by rw[<-hPS,toL_ofL])
   have hPz:PS.size=(printR r).length:=by rw[<-hPS,ofL_size]
   have hPz2:(printRs (l.take k)).length+PS.size<=3000000:=by omega
   rw[hPS]at hRP
   have HRP:=Lib.hid hRP
   clear hRP hPS hPz
   generalize wo.heap.size=px at *
   have e0:W3.cell? ⟨px,0,none⟩=some (.string AS):=by rw[Lib.cell_of_heap HX3.out];rfl
   have e1:W3.cell? ⟨px,1,none⟩=some (.int .i64 r.amt):=by rw[Lib.cell_of_heap HX3.out];rfl
   have e2:W3.cell? ⟨px,2,none⟩=some (.bool r.til.isSome):=by rw[Lib.cell_of_heap HX3.out];rfl
   have e3:W3.cell? ⟨px,3,none⟩=some (.int .i64 (r.til.getD 0:Nat)):=by rw[Lib.cell_of_heap HX3.out];rfl
   have e4:W3.cell? ⟨px,4,none⟩=some v:=by rw[Lib.cell_of_heap HX3.out];rfl
   have HWS:=Lib.hid (fun (wx:World) (hx:Below W3.heap.size W3 wx)=>bld_write2 w.heap.size w.heap.size (printRs (l.take k)) PS wx (bld_below HBL3.out hx) (by omega) (Nat.le_trans HBE3.out.size hx.size))
   have HWB:=Lib.hid (fun (wx:World) (h1:Lib.IsBuilder 87 5 w.heap.size w.heap.size (Lib.byteCells (printRs (l.take k)++toL PS)) wx) (h2:w.heap.size<=wx.heap.size)=>bld_byte w.heap.size w.heap.size (printRs (l.take k)++toL PS) 10 10 rfl wx h1 (by rw[List.length_append,toL_length];omega) h2)
   clear htk hbr hbd
   go_wp2_with (first
    | (go_at_call 34;(with_reducible refine HRP.out.mono ?_);rintro e w4 ⟨rfl,hb4⟩;have HB4:=Lib.hid hb4;clear hb4)
    | (go_at_call 33;(with_reducible refine(HWS.out _ HB4.out).mono ?_);rintro e w5 ⟨rfl,hbl5,hb5,_,_⟩;have HBL5:=Lib.hid hbl5;have HB5:=Lib.hid ((HBE3.out.trans (HB4.out.mono HBE3.out.size)).trans hb5);have hz5:=HB5.out.size;clear hbl5 hb5)
    | (go_at_call 35;(with_reducible refine(HWB.out _ HBL5.out hz5).mono ?_);rintro e w6 ⟨rfl,hbl6,hb6⟩;have HBL6:=Lib.hid hbl6;have HB6:=Lib.hid (HB5.out.trans hb6);clear hbl6 hb6))
   go_roundw
   case rel=>exact⟨k+1,by omega,by go_num,by rw[HTK.out, ← HPS.out];exact HBL6.out,HB6.out⟩
   case measure=>simp[intOf]<;>omega
  ·have k1:(l.length:Int)<=(k:Int):=by omega
   obtain rfl:k=l.length:=by omega
   have HSG:=Lib.hid (Tryz.Builder_String_any w.heap.size w.heap.size (printRs (l.take l.length)) wo HBL.out hzr)
   rw[List.take_length]at HSG
   have HSG2:=Lib.hid (show Calls Tryz.prog 36 #[.pointer (some ⟨w.heap.size,0,none⟩)] wo (fun e w'=>e=.returned (.string (ofL (printRs l)))/\Below w.heap.size wo w') from HSG.out.mono (fun e w' h=>⟨h.1,by
    first
     | exact h.2
     | exact h.2.1
     | exact h.2.2⟩))
   obtain⟨PS,hPS⟩:∃PS,ofL (printRs l)=PS:=⟨_,rfl⟩
   have HPS:=Lib.hid hPS
   rw[hPS]at HSG2
   clear hPS HSG
   go_wp2_with ((go_at_call 36;(with_reducible refine HSG2.out.mono ?_);rintro e w5 ⟨rfl,hb5⟩;have HB5:=Lib.hid (HBE.out.trans hb5);clear hb5))
   go_ret
   exact⟨congrArg (fun x=>Ending.returned (Value.string x)) HPS.out.symm,HB5.out⟩
attribute [local go_sem] run_store
theorem pa_ok{s:ByteArray}{w:World}{l:List RuleS}(hsh:w.ShapedOpen Tryz.prog)(h:parseG (toL s)=.ok l):Calls Tryz.prog 11 #[.string s] w fun e w'=>∃rb,e=.returned (.tuple #[.pointer (some ⟨rb,0,none⟩),.int .i64 0,.int .i64 0,.int .i64 0])/\RulesIn w' rb l/\Below w.heap.size w w':=by
 refine(sc_parse s w hsh).mono fun e w' hp=>?_
 have hr:=hp.res
 rw[h]at hr
 obtain⟨rb,h1,h2,_⟩:=hr
 exact⟨rb,h1,h2,hp.bel⟩
theorem pa_err{s:ByteArray}{w:World}{i c:Nat}{er:Int}(hsh:w.ShapedOpen Tryz.prog)(h:parseG (toL s)=.error (i,c,er)):Calls Tryz.prog 11 #[.string s] w fun e w'=>e=.returned (.tuple #[.pointer none,.int .i64 (i:Int),.int .i64 (c:Int),.int .i64 er])/\Below w.heap.size w w':=by
 refine(sc_parse s w hsh).mono fun e w' hp=>?_
 have hr:=hp.res
 rw[h]at hr
 exact⟨hr,hp.bel⟩
abbrev kIC:Array Value:=#[.string ⟨#[]⟩,.string ⟨#[71,111,112,104,101,114,115]⟩,.string ⟨#[]⟩,.int .u8 0,.int .u8 0,.int .u8 0,.int .u8 0,.int .u8 0,.int .u8 0,.int .u8 0,.int .u8 0,.int .u8 0,.int .u8 0,.int .u8 0,.int .u8 0,.int .u8 0,.int .u8 0,.int .u8 0,.int .u8 0,.slice none 0 0,.int .i64 5,.int .i64 0,.int .i64 9,.int .i64 0,.int .i64 0]
theorem kInV:InV kX kIC none 0 where
 size:=rfl
 c0:=rfl
 c1:=rfl
 c2:=rfl
 au:=rfl
 cau:=fun i h=>by
  have h16:i<16:=h
  have:∀j,j<16->kIC[3+j]?=some (.int .u8 0):=by
   intro j hj
   match j,hj with
   | 0,_=>rfl
   | 1,_=>rfl
   | 2,_=>rfl
   | 3,_=>rfl
   | 4,_=>rfl
   | 5,_=>rfl
   | 6,_=>rfl
   | 7,_=>rfl
   | 8,_=>rfl
   | 9,_=>rfl
   | 10,_=>rfl
   | 11,_=>rfl
   | 12,_=>rfl
   | 13,_=>rfl
   | 14,_=>rfl
   | 15,_=>rfl
   | n+16,h=>omega
  rw[this i h16]
  show _=some (Value.int .u8 (num ((List.replicate 16 (0:UInt8))[i]'(by simpa using h16))))
  rw[List.getElem_replicate]
  rfl
 c19:=rfl
 c20:=rfl
 c21:=rfl
 c22:=rfl
 c23:=rfl
 c24:=rfl
 one:=by
  intro v hv
  have h:kIC.toList.all (·.oneCell')=true:=rfl
  exact List.all_eq_true.1 h v hv
 s0:=by decide
 s1:=by decide
 s2:=by decide
 gn:=by decide
 gs:=by intro g hg;simp[kX]at hg
set_option maxHeartbeats 16000000 in
set_option maxRecDepth 100000 in
theorem law_known(w:World)(hsh:w.ShapedOpen Tryz.prog)(ht:TabN w):Calls Tryz.prog 13 #[] w fun e w'=>e=.returned (.bool true)/\Below w.heap.size w w':=by
 have H1:=Lib.hid (pa_ok (s:=⟨#[43,49,48,32,105,102,32,115,117,98,106,101,99,116,32,104,97,115,32,34,103,111,34,32,97,110,100,32,110,111,116,32,40,97,103,101,32,62,32,49,52,52,48,32,111,114,32,108,105,110,101,115,32,60,32,51,41,10]⟩) hsh (show parseG (toL ⟨#[43,49,48,32,105,102,32,115,117,98,106,101,99,116,32,104,97,115,32,34,103,111,34,32,97,110,100,32,110,111,116,32,40,97,103,101,32,62,32,49,52,52,48,32,111,114,32,108,105,110,101,115,32,60,32,51,41,10]⟩)=.ok kL1 from kn1))
 have H2:=Lib.hid (fun wx (hx:Below w.heap.size w wx)=>pa_ok (s:=⟨#[107,105,108,108,32,105,102,32,40,40,110,97,109,101,32,105,115,32,34,120,34,41,41]⟩) (shaped_below hsh hx) (show parseG (toL ⟨#[107,105,108,108,32,105,102,32,40,40,110,97,109,101,32,105,115,32,34,120,34,41,41]⟩)=.ok kL2 from kn2))
 have H3:=Lib.hid (fun wx (hx:Below w.heap.size w wx)=>show Calls Tryz.prog 11 #[.string ⟨#[10,35,32,120,10,107,105,108]⟩] wx (fun e w'=>e=.returned (.tuple #[.pointer none,.int .i64 3,.int .i64 1,.int .i64 29])/\Below wx.heap.size wx w') from pa_err (s:=⟨#[10,35,32,120,10,107,105,108]⟩) (i:=3) (c:=1) (er:=29) (shaped_below hsh hx) kn3)
 have H4:=Lib.hid (fun wx (hx:Below w.heap.size w wx)=>show Calls Tryz.prog 11 #[.string ⟨#[43,53,32,105,102]⟩] wx (fun e w'=>e=.returned (.tuple #[.pointer none,.int .i64 1,.int .i64 6,.int .i64 29])/\Below wx.heap.size wx w') from pa_err (s:=⟨#[43,53,32,105,102]⟩) (i:=1) (c:=6) (er:=29) (shaped_below hsh hx) kn4)
 have H5:=Lib.hid (fun wx rb (hx:Below w.heap.size w wx) (hr:RulesIn wx rb kL1)=>show Calls Tryz.prog 17 #[.pointer (some ⟨rb,0,none⟩),.agg kIC] wx (fun e w'=>e=.returned (.agg #[.int .i64 10,.bool false,.bool false,.int .i64 1])/\Below wx.heap.size wx w') from by
  have h:=sc_rate kInV (shaped_below hsh hx) (.inl rfl) hr (by decide)
  rw[krt]at h
  exact h)
 obtain⟨P1,hP1⟩:∃P1:ByteArray,ofL kT1=P1:=⟨_,rfl⟩
 obtain⟨P2,hP2⟩:∃P2:ByteArray,ofL kP2=P2:=⟨_,rfl⟩
 have H6:=Lib.hid (fun wx rb (hx:Below w.heap.size w wx) (hr:RulesIn wx rb kL1)=>show Calls Tryz.prog 18 #[.pointer (some ⟨rb,0,none⟩)] wx (fun e w'=>e=.returned (.string P1)/\Below wx.heap.size wx w') from by
  have h:=sc_print (shaped_below hsh hx) (ht.below hx) hr (by decide) (by rw[kpr1];decide)
  rw[kpr1]at h
  rw[<-hP1];exact h)
 have H7:=Lib.hid (fun wx rb (hx:Below w.heap.size w wx) (hr:RulesIn wx rb kL2)=>show Calls Tryz.prog 18 #[.pointer (some ⟨rb,0,none⟩)] wx (fun e w'=>e=.returned (.string P2)/\Below wx.heap.size wx w') from by
  have h:=sc_print (shaped_below hsh hx) (ht.below hx) hr (by decide) (by rw[kpr2];decide)
  rw[kpr2]at h
  rw[<-hP2];exact h)
 have f1:(P1.toList == [43,49,48,32,105,102,32,115,117,98,106,101,99,116,32,104,97,115,32,34,103,111,34,32,97,110,100,32,110,111,116,32,40,97,103,101,32,62,32,49,52,52,48,32,111,114,32,108,105,110,101,115,32,60,32,51,41,10])=true:=by rw[<-hP1,ByteArray.toList_eq];decide
 have f1':(P1.toList==(⟨#[43,49,48,32,105,102,32,115,117,98,106,101,99,116,32,104,97,115,32,34,103,111,34,32,97,110,100,32,110,111,116,32,40,97,103,101,32,62,32,49,52,52,48,32,111,114,32,108,105,110,101,115,32,60,32,51,41,10]⟩:ByteArray).toList)=true:=by rw[<-hP1,ByteArray.toList_eq,ByteArray.toList_eq];decide
 have f2:(P2.toList == [107,105,108,108,32,105,102,32,110,97,109,101,32,105,115,32,34,120,34,10])=true:=by rw[<-hP2,ByteArray.toList_eq];decide
 have hq:∀wx,(Op.equalIn 10000 39 (.agg #[.int .i64 10,.bool false,.bool false,.int .i64 1]) (.agg #[.int .i64 10,.bool false,.bool false,.int .i64 1])).run Tryz.prog wx=.ok true wx:=fun wx=>by kernel_rfl
 have hg:=Tryz.eqGuardType39
 clear hP1 hP2 hsh ht
 go_enter Tryz.func13,Tryz.ntmps13
 go_upto_region 6 with(first
  | (go_at_call 11;(with_reducible refine H1.out.mono ?_);rintro e w1 ⟨r1,rfl,hr1,hb1⟩;have HR1:=Lib.hid hr1;have HB1:=Lib.hid hb1;clear hr1 hb1)
  | (go_at_call 11;(with_reducible refine(H2.out _ HB1.out).mono ?_);rintro e w2 ⟨r2,rfl,hr2,hb2⟩;have HR2:=Lib.hid hr2;have HB2:=Lib.hid (HB1.out.trans (hb2.mono HB1.out.size));have HR12:=Lib.hid (HR1.out.below hb2);clear hr2 hb2)
  | (go_at_call 11;(with_reducible refine(H3.out _ HB2.out).mono ?_);rintro e w3 ⟨rfl,hb3⟩;have HB3:=Lib.hid (HB2.out.trans (hb3.mono HB2.out.size));have HR13:=Lib.hid (HR12.out.below hb3);have HR23:=Lib.hid (HR2.out.below hb3);clear hb3)
  | (go_at_call 11;(with_reducible refine(H4.out _ HB3.out).mono ?_);rintro e w4 ⟨rfl,hb4⟩;have HB4:=Lib.hid (HB3.out.trans (hb4.mono HB3.out.size));have HR14:=Lib.hid (HR13.out.below hb4);have HR24:=Lib.hid (HR23.out.below hb4);clear hb4))
 go_upto_region 7 with((go_at_call 17;(with_reducible refine(H5.out _ _ HB4.out HR14.out).mono ?_);rintro e w5 ⟨rfl,hb5⟩;have HB5:=Lib.hid (HB4.out.trans (hb5.mono HB4.out.size));have HR15:=Lib.hid (HR14.out.below hb5);have HR25:=Lib.hid (HR24.out.below hb5);clear hb5))
 have hb6:=alloc_bel w5 (.cells #[.int .i64 10,.bool false,.bool false,.int .i64 1] 39)
 have hx6:=heap_alloc_new w5 (.cells #[.int .i64 10,.bool false,.bool false,.int .i64 1] 39)
 have HB6:=Lib.hid (HB5.out.trans (hb6.mono HB5.out.size))
 have HR16:=Lib.hid (HR15.out.below hb6)
 have HR26:=Lib.hid (HR25.out.below hb6)
 have HX6:=Lib.hid hx6
 clear hb6 hx6
 generalize w5.alloc (.cells #[.int .i64 10,.bool false,.bool false,.int .i64 1] 39)=W6 at *
 have hz6:=heap_lt HX6.out
 generalize w5.heap.size=px at *
 go_wp2_with (first
  | (go_at_call 18;(with_reducible refine(H6.out _ _ HB6.out HR16.out).mono ?_);rintro e w7 ⟨rfl,hb7⟩;have HB7:=Lib.hid (HB6.out.trans (hb7.mono HB6.out.size));have HR27:=Lib.hid (HR26.out.below hb7);have HX7:=Lib.hid ((hb7.block _ hz6).trans HX6.out);clear hb7)
  | (go_at_call 18;(with_reducible refine(H7.out _ _ HB7.out HR27.out).mono ?_);rintro e w8 ⟨rfl,hb8⟩;have HB8:=Lib.hid (HB7.out.trans (hb8.mono HB7.out.size));have hx8:=(hb8.block _ (heap_lt HX7.out)).trans HX7.out;have c0:w8.cell? ⟨px,0,none⟩=some (.int .i64 10):=(by rw[Lib.cell_of_heap hx8];rfl);have c1:w8.cell? ⟨px,1,none⟩=some (.bool false):=(by rw[Lib.cell_of_heap hx8];rfl);have c2:w8.cell? ⟨px,2,none⟩=some (.bool false):=(by rw[Lib.cell_of_heap hx8];rfl);have c3:w8.cell? ⟨px,3,none⟩=some (.int .i64 1):=(by rw[Lib.cell_of_heap hx8];rfl);clear hb8 hx8))
 go_ret
 exact⟨rfl,HB8.out⟩
end Go.Proofs.YtannhfnpigiggaaGreatDoor
