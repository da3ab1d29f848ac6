import Derived.Test.YtannhfnpigiggaaGreatDoorPt42
import Derived.Test.YtannhfnpigiggaaGreatDoorPt43
import Derived.Test.YtannhfnpigiggaaGreatDoorPt44
namespace Go.Proofs.YtannhfnpigiggaaGreatDoor
set_option linter.unusedSimpArgs false
set_option linter.unusedVariables false
open Go.RowKit
attribute [local go_sem ↓] wp_load_in
theorem print_small{L:Bs}{a:List RuleS}(hL:L.length<=1200)(ha:parseG L=.ok a):(printRs a).length<=25000:=by
 unfold parseG at ha
 rw[if_neg (by omega)]at ha
 have h3:=rulesG_wt _ _ _ _ ha
 have h4:lensL (linesM L)=L.length+1:=by unfold linesM;rw[lens_split];simp
 omega
set_option maxHeartbeats 16000000 in
set_option maxRecDepth 100000 in
theorem app_badA{c0 d0 C D:ByteArray}{IC:Array Value}{w:World}(hsc:∀wx,Calls Tryz.prog 12 #[.string c0,.int .i64 1000] wx fun e w'=>e=.returned (.string C)/\wx=w')(hsd:∀wx,Calls Tryz.prog 12 #[.string d0,.int .i64 1000] wx fun e w'=>e=.returned (.string D)/\wx=w')(hsh:w.ShapedOpen Tryz.prog)(ht:TabN w){i j:Nat}{er:Int}(hne:er≠0)(hp:parseG (toL C)=.error (i,j,er)) :
  Calls Tryz.prog 8 #[.string c0,.string d0,.agg IC] w fun e w'=>e=.returned (.bool true)/\Below w.heap.size w w':=by
 have HSC:=Lib.hid hsc
 have HSD:=Lib.hid hsd
 have HB0:=Lib.hid (alloc_bel w (.cells IC 26))
 have HKN:=Lib.hid (fun wx (hx:Below w.heap.size w wx)=>law_known wx (shaped_below hsh hx) (ht.below hx))
 have H1:=Lib.hid (fun wx (hx:Below w.heap.size w wx)=>pa_err (shaped_below hsh hx) hp)
 have H2:=Lib.hid (fun wx (hx:Below w.heap.size w wx)=>pa_any D wx (shaped_below hsh hx))
 have hne':(er != 0)=true:=bne_iff_ne.2 hne
 clear hp hne hsh ht hsc hsd
 go_enter Tryz.func8,Tryz.ntmps8
 go_upto_region 1 with fail
 generalize w.alloc (.cells IC 26)=W0 at *
 go_wp2_with (first
  | (go_at_call 12;(with_reducible refine(HSC.out _).mono ?_);rintro e' w' ⟨rfl,rfl⟩)
  | (go_at_call 12;(with_reducible refine(HSD.out _).mono ?_);rintro e' w' ⟨rfl,rfl⟩)
  | (go_at_call 11;(with_reducible refine(H1.out _ HB0.out).mono ?_);rintro e' w1 ⟨rfl,hb1⟩;have HB1:=Lib.hid (HB0.out.trans (hb1.mono HB0.out.size));clear hb1)
  | (go_at_call 11;(with_reducible refine(H2.out _ HB1.out).mono ?_);rintro e' w2 ⟨p2,i2,j2,k2,rfl,hb2⟩;have HB:=Lib.hid (HB1.out.trans (hb2.mono HB1.out.size));clear hb2)
  | (go_at_call 13;(with_reducible refine(HKN.out _ HB.out).mono ?_);rintro e' w5 ⟨rfl,hb5⟩;have HB:=Lib.hid (HB.out.trans (hb5.mono HB.out.size));clear hb5))
 go_ret
 exact⟨rfl,HB.out⟩
set_option maxHeartbeats 16000000 in
set_option maxRecDepth 100000 in
theorem app_badB{c0 d0 C D:ByteArray}{IC:Array Value}{w:World}(hsc:∀wx,Calls Tryz.prog 12 #[.string c0,.int .i64 1000] wx fun e w'=>e=.returned (.string C)/\wx=w')(hsd:∀wx,Calls Tryz.prog 12 #[.string d0,.int .i64 1000] wx fun e w'=>e=.returned (.string D)/\wx=w')(hsh:w.ShapedOpen Tryz.prog)(ht:TabN w){la:List RuleS}{i j:Nat}{er:Int}(hp:parseG (toL C)=.ok la)(hne:er≠0)(hq:parseG (toL D)=.error (i,j,er)) :
  Calls Tryz.prog 8 #[.string c0,.string d0,.agg IC] w fun e w'=>e=.returned (.bool true)/\Below w.heap.size w w':=by
 have HSC:=Lib.hid hsc
 have HSD:=Lib.hid hsd
 have HB0:=Lib.hid (alloc_bel w (.cells IC 26))
 have HKN:=Lib.hid (fun wx (hx:Below w.heap.size w wx)=>law_known wx (shaped_below hsh hx) (ht.below hx))
 have H1:=Lib.hid (fun wx (hx:Below w.heap.size w wx)=>pa_ok (shaped_below hsh hx) hp)
 have H2:=Lib.hid (fun wx (hx:Below w.heap.size w wx)=>pa_err (shaped_below hsh hx) hq)
 have hne':(er != 0)=true:=bne_iff_ne.2 hne
 clear hp hq hne hsh ht hsc hsd
 go_enter Tryz.func8,Tryz.ntmps8
 go_upto_region 1 with fail
 generalize w.alloc (.cells IC 26)=W0 at *
 go_wp2_with (first
  | (go_at_call 12;(with_reducible refine(HSC.out _).mono ?_);rintro e' w' ⟨rfl,rfl⟩)
  | (go_at_call 12;(with_reducible refine(HSD.out _).mono ?_);rintro e' w' ⟨rfl,rfl⟩)
  | (go_at_call 11;(with_reducible refine(H1.out _ HB0.out).mono ?_);rintro e' w1 ⟨ra,rfl,hr1,hb1⟩;have HB1:=Lib.hid (HB0.out.trans (hb1.mono HB0.out.size));clear hb1 hr1)
  | (go_at_call 11;(with_reducible refine(H2.out _ HB1.out).mono ?_);rintro e' w2 ⟨rfl,hb2⟩;have HB:=Lib.hid (HB1.out.trans (hb2.mono HB1.out.size));clear hb2)
  | (go_at_call 13;(with_reducible refine(HKN.out _ HB.out).mono ?_);rintro e' w5 ⟨rfl,hb5⟩;have HB:=Lib.hid (HB.out.trans (hb5.mono HB.out.size));clear hb5))
 go_ret
 exact⟨rfl,HB.out⟩
set_option maxHeartbeats 16000000 in
set_option maxRecDepth 100000 in
theorem app_many{c0 d0 C D:ByteArray}{IC:Array Value}{w:World}(hsc:∀wx,Calls Tryz.prog 12 #[.string c0,.int .i64 1000] wx fun e w'=>e=.returned (.string C)/\wx=w')(hsd:∀wx,Calls Tryz.prog 12 #[.string d0,.int .i64 1000] wx fun e w'=>e=.returned (.string D)/\wx=w')(hsh:w.ShapedOpen Tryz.prog)(ht:TabN w){la lb:List RuleS}(hC:C.size<=1000)(hD:D.size<=1000)(hp:parseG (toL C)=.ok la)(hq:parseG (toL D)=.ok lb)(hn:200<la.length+lb.length) :
  Calls Tryz.prog 8 #[.string c0,.string d0,.agg IC] w fun e w'=>e=.returned (.bool true)/\Below w.heap.size w w':=by
 have HSC:=Lib.hid hsc
 have HSD:=Lib.hid hsd
 have HB0:=Lib.hid (alloc_bel w (.cells IC 26))
 have HKN:=Lib.hid (fun wx (hx:Below w.heap.size w wx)=>law_known wx (shaped_below hsh hx) (ht.below hx))
 have H1:=Lib.hid (fun wx (hx:Below w.heap.size w wx)=>pa_ok (shaped_below hsh hx) hp)
 have H2:=Lib.hid (fun wx (hx:Below w.heap.size w wx)=>pa_ok (shaped_below hsh hx) hq)
 have k1:=parse_few hp
 have k2:=parse_few hq
 have p1:=print_small (by rw[toL_length];omega) hp
 have p2:=print_small (by rw[toL_length];omega) hq
 have HPA:=Lib.hid (fun wx (hx:Below w.heap.size w wx) (ra:Nat) (hr:RulesIn wx ra la)=>sc_print (shaped_below hsh hx) (ht.below hx) hr (by omega) (by omega))
 have HPB:=Lib.hid (fun wx (hx:Below w.heap.size w wx) (rb:Nat) (hr:RulesIn wx rb lb)=>sc_print (shaped_below hsh hx) (ht.below hx) hr (by omega) (by omega))
 have HAP:=Lib.hid (fun (wx:World) (ra rb:Nat) (hr:RulesIn wx ra la) (hs:RulesIn wx rb lb)=>sc_append_limit hr hs k1 k2 hn)
 obtain⟨m,hm⟩:∃m,la.length+lb.length=m:=⟨_,rfl⟩
 have y0:IntKind.i64.wrap ((la.length:Int)+(lb.length:Int))=(m:Int):=by rw[IntWalk.i64_in _ (by omega)];omega
 have y1:(200:Int)<(m:Int):=by omega
 clear hp hq hsh ht hsc hsd hm p1 p2 hC hD
 go_enter Tryz.func8,Tryz.ntmps8
 go_upto_region 1 with fail
 generalize w.alloc (.cells IC 26)=W0 at *
 go_wp2_with (first
  | (go_at_call 12;(with_reducible refine(HSC.out _).mono ?_);rintro e' w' ⟨rfl,rfl⟩)
  | (go_at_call 12;(with_reducible refine(HSD.out _).mono ?_);rintro e' w' ⟨rfl,rfl⟩)
  | (go_at_call 11;(with_reducible refine(H1.out _ HB0.out).mono ?_);rintro e' w1 ⟨ra,rfl,hr1,hb1⟩;have HRA:=Lib.hid hr1;have HB1:=Lib.hid (HB0.out.trans (hb1.mono HB0.out.size));clear hb1 hr1)
  | (go_at_call 11;(with_reducible refine(H2.out _ HB1.out).mono ?_);rintro e' w2 ⟨rb,rfl,hr2,hb2⟩;have HRA:=Lib.hid (HRA.out.below hb2);have HRB:=Lib.hid hr2;have HB:=Lib.hid (HB1.out.trans (hb2.mono HB1.out.size));clear hb2 hr2)
  | (go_at_call 13;(with_reducible refine(HKN.out _ HB.out).mono ?_);rintro e' w5 ⟨rfl,hb5⟩;have HB:=Lib.hid (HB.out.trans (hb5.mono HB.out.size));have HRA:=Lib.hid (HRA.out.below hb5);have HRB:=Lib.hid (HRB.out.below hb5);clear hb5)
  | (go_at_call 18;(with_reducible refine(HPA.out _ HB.out _ HRA.out).mono ?_);rintro e' w6 ⟨rfl,hb6⟩;have HB:=Lib.hid (HB.out.trans (hb6.mono HB.out.size));have HRA:=Lib.hid (HRA.out.below hb6);have HRB:=Lib.hid (HRB.out.below hb6);clear hb6)
  | (go_at_call 18;(with_reducible refine(HPB.out _ HB.out _ HRB.out).mono ?_);rintro e' w6 ⟨rfl,hb6⟩;have HB:=Lib.hid (HB.out.trans (hb6.mono HB.out.size));have HRA:=Lib.hid (HRA.out.below hb6);have HRB:=Lib.hid (HRB.out.below hb6);clear hb6)
  | (go_at_call 26;(with_reducible refine(HAP.out _ _ _ HRA.out HRB.out).mono ?_);rintro e' w7 ⟨rfl,hb7⟩;have HB:=Lib.hid (HB.out.trans (hb7.mono HB.out.size));have HRA:=Lib.hid (HRA.out.below hb7);have HRB:=Lib.hid (HRB.out.below hb7);clear hb7)
  | (go_at_call 20;(with_reducible refine(sc_len HRA.out).mono ?_);rintro e' w8 ⟨rfl,rfl⟩)
  | (go_at_call 20;(with_reducible refine(sc_len HRB.out).mono ?_);rintro e' w8 ⟨rfl,rfl⟩))
 go_ret
 exact⟨rfl,HB.out⟩
end Go.Proofs.YtannhfnpigiggaaGreatDoor
