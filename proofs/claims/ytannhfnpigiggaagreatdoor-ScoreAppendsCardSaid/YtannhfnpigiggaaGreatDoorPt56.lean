import Derived.Test.YtannhfnpigiggaaGreatDoorPt45
import Derived.Test.YtannhfnpigiggaaGreatDoorPt55
namespace Go.Proofs.YtannhfnpigiggaaGreatDoor
set_option linter.unusedSimpArgs false
set_option linter.unusedVariables false
open Go.RowKit
attribute [local go_sem ↓] wp_load_in wp_load_inR ex_load_inR
def OkCat(v u:Value):Prop := ∃a b,v=.string a/\u=.string b/\a.size+b.size<=1000000
def catV:Value->Value->Value
 | .string a,.string b=>.string (a++b)
 | v,_=>v
theorem ex_cat{d:Option Tmp}{ty:TypeId}{pos:String}{af:Array Edge}{x y:Operand}{ρ:Operand->Value}{w:World}{g:Option (Nat × Bool)}(h:OkCat (ρ x) (ρ y)) :
  (execOp ρ { dst:=d,op:=.binOp .add 9 x y 9,type:=ty,pos:=pos,after:=af,guard:=g }).run Tryz.prog w=.ok (.value (catV (ρ x) (ρ y))) w:=by
 obtain⟨a,b,h1,h2,h3⟩:=h
 have hb:(binOp .add 9 (.string a) (.string b)).run Tryz.prog w=.ok (.string (a++b)) w:=by
  have h4:a.size+b.size<=9223372036854775807:=by omega
  simp[go_sem,h4]
 have he:(eqGuard .add 9 x y (.string a) (.string b)).run Tryz.prog w=.ok () w:=by first|rfl|simp[eqGuard]
 unfold execOp
 simp only[h1,h2,he,hb,Sem.run_bind,Sem.run_pure,Result.andThen_ok,catV]
attribute [local go_sem ↓] ex_cat
theorem ruOk_nf{r:RuleS}(h:RuleOk r):RuleOk (nfR r):=⟨h.act,h.amt,h.til⟩
set_option maxHeartbeats 16000000 in
set_option maxRecDepth 100000 in
theorem app_good {c0 d0 C D : ByteArray} {N S B : ByteArray} {f : Nat → Int} {A : Option Addr} {l : List Bs} {gc : Nat} {a b c d e : Int} {w : World} (hin : InOk N S B f A l w) (hsc : ∀ wx, Calls Tryz.prog 12 #[.string c0, .int .i64 1000] wx fun e w' => e = .returned (.string C) ∧ wx = w') (hsd : ∀ wx, Calls Tryz.prog 12 #[.string d0, .int .i64 1000] wx fun e w' => e = .returned (.string D) ∧ wx = w') (hsh : w.ShapedOpen Tryz.prog) (ht : TabN w)
    {la lb : List RuleS} (hC : C.size ≤ 1000) (hD : D.size ≤ 1000) (hp : parseG (toL C) = .ok la) (hq : parseG (toL D) = .ok lb) (hn : la.length + lb.length ≤ 200) :
    Calls Tryz.prog 8 #[.string c0, .string d0, .agg (inX N S B f (.slice A l.length gc) a b c d e)] w fun e w' => e = .returned (.bool true) ∧ Below w.heap.size w w' := by
  have HSC:=Lib.hid hsc
  have HSD:=Lib.hid hsd
  obtain ⟨IC,hIC⟩:∃ IC,inX N S B f (.slice A l.length gc) a b c d e=IC:=⟨_,rfl⟩
  have hsz : IC.size=25:=by rw [← hIC]; rfl
  obtain ⟨RF,hRF⟩:∃ RF : Option Addr → Nat → List Value,(fun A2 c2=>(inX (N.extract 0 (min N.size 300)) (S.extract 0 (min S.size 300)) (B.extract 0 (min B.size 300)) f (.slice A2 ((l.take 8).map (·.take 80)).length c2) a b c d e).toList)=RF:=⟨_,rfl⟩
  have hRF2 : ∀ A2 c2,inX (N.extract 0 (min N.size 300)) (S.extract 0 (min S.size 300)) (B.extract 0 (min B.size 300)) f (.slice A2 ((l.take 8).map (·.take 80)).length c2) a b c d e=(RF A2 c2).toArray:=fun A2 c2=>by rw [← hRF]
  have HTO := Lib.hid (fun wx (hx : Below w.heap.size w wx) => show Calls Tryz.prog 15 #[.agg IC] wx (fun e' w' => ∃ A2 c2, e' = .returned (.agg (RF A2 c2).toArray) ∧ Row w' A2 (strsL ((l.take 8).map (·.take 80))) ∧ Below wx.heap.size wx w') from by
    have h:=law_to_start N S B f A l gc a b c d e wx hin.nz hin.sz hin.bz hin.lz (hin.rz.below hx) hin.ez
    rw [hIC] at h
    refine h.mono fun e' w' ⟨A2, c2, h1, h2, h3⟩ => ⟨A2, c2, ?_, h2, h3⟩
    rw [h1,hRF2])
  have HBK := Lib.hid (fun A2 c2 wx => show Calls Tryz.prog 14 #[.agg (RF A2 c2).toArray] wx (fun e' w' => e' = .returned (.agg (RF A2 c2).toArray) ∧ Below wx.heap.size wx w') from by
    rw [← hRF2]; exact law_back _ _ _ f A2 _ c2 a b c d e wx)
  have hst : ∀ A2 c2 (wx : World), (storeCells ⟨wx.heap.size, 0, none⟩ (RF A2 c2) 0).run Tryz.prog (wx.alloc (.cells inZ 35)) = .ok () (wx.alloc (.cells (RF A2 c2).toArray 35)) := fun A2 c2 wx => by
    have h:=run_storeCells_new (P:=Tryz.prog) wx 35 inZ (RF A2 c2).toArray (by rw [← hRF2]; kernel_rfl) (by rw [← hRF2]; rfl) (by rw [← hRF2]; simp [Value.oneCell'])
    simpa using h
  have hrs : ∀ A2 c2,(RF A2 c2).length=25:=fun A2 c2=>by rw [← hRF]; rfl
  have hIV : ∀ A2 c2, InV (inS (N.extract 0 (min N.size 300)) (S.extract 0 (min S.size 300)) (B.extract 0 (min B.size 300)) f ((l.take 8).map (·.take 80)) a b c d e) (RF A2 c2).toArray A2 c2 := fun A2 c2 => by
    rw [← hRF2]
    have hx : ∀ (t : ByteArray), (t.extract 0 (min t.size 300)).size ≤ 1000000 := fun t => by
      have:=congrArg List.length (short_toL t 300)
      rw [toL_length,List.length_take] at this; omega
    refine inV_of (hx N) (hx S) (hx B) hin.fz (by simp; omega) (fun g hg => ?_) A2 c2
    simp only [List.mem_map] at hg
    obtain ⟨g',_,rfl⟩:=hg
    rw [List.length_take]; omega
  have hxg : (inS (N.extract 0 (min N.size 300)) (S.extract 0 (min S.size 300)) (B.extract 0 (min B.size 300)) f ((l.take 8).map (·.take 80)) a b c d e).groups=(l.take 8).map (·.take 80):=rfl
  generalize inS (N.extract 0 (min N.size 300)) (S.extract 0 (min S.size 300)) (B.extract 0 (min B.size 300)) f ((l.take 8).map (·.take 80)) a b c d e=x at *
  have HB0:=Lib.hid (alloc_bel w (.cells IC 26))
  have HX0:=Lib.hid (show (w.alloc (.cells IC 26)).heap[w.heap.size]?=some (.cells IC 26 (0,0)) from in_new w IC)
  have HKN:=Lib.hid (fun wx (hx : Below w.heap.size w wx)=>law_known wx (shaped_below hsh hx) (ht.below hx))
  have HSZ:=Lib.hid hsz
  have H1:=Lib.hid (fun wx (hx : Below w.heap.size w wx)=>pa_ok (shaped_below hsh hx) hp)
  have H2:=Lib.hid (fun wx (hx : Below w.heap.size w wx)=>pa_ok (shaped_below hsh hx) hq)
  have k1:=parse_few hp
  have k2:=parse_few hq
  have p1:=print_small (by rw [toL_length]; omega) hp
  have p2:=print_small (by rw [toL_length]; omega) hq
  obtain ⟨PA,hPA⟩:∃ PA,ofL (printRs la)=PA:=⟨_,rfl⟩
  obtain ⟨PB,hPB⟩:∃ PB,ofL (printRs lb)=PB:=⟨_,rfl⟩
  have htwo:=parse_two (by rw [toL_length]; omega) (by rw [toL_length]; omega) hp hq hn
  have hPQ : ofL (printRs (la ++ lb))=PA ++ PB:=by rw [printRs_two,← ofL_append,hPA,hPB]
  have hTQ : toL (PA ++ PB)=printRs la ++ printRs lb:=by rw [← hPQ,toL_ofL,printRs_two]
  have H3:=Lib.hid (fun wx=>rf_parse (PA ++ PB) wx (rs:=(la ++ lb).map nfR) (by rw [hTQ]; exact htwo.1))
  have hpc : (printRs (la ++ lb)).length ≤ 50000:=by rw [printRs_two,List.length_append]; omega
  have HPA := Lib.hid (fun wx (hx : Below w.heap.size w wx) (ra : Nat) (hr : RulesIn wx ra la) => show Calls Tryz.prog 18 #[.pointer (some ⟨ra, 0, none⟩)] wx fun e' w' => e' = .returned (.string PA) ∧ Below wx.heap.size wx w' from by
    have:=sc_print (shaped_below hsh hx) (ht.below hx) hr (by omega) (by omega)
    unfold StP at this
    rwa [hPA] at this)
  have HPB := Lib.hid (fun wx (hx : Below w.heap.size w wx) (rb : Nat) (hr : RulesIn wx rb lb) => show Calls Tryz.prog 18 #[.pointer (some ⟨rb, 0, none⟩)] wx fun e' w' => e' = .returned (.string PB) ∧ Below wx.heap.size wx w' from by
    have:=sc_print (shaped_below hsh hx) (ht.below hx) hr (by omega) (by omega)
    unfold StP at this
    rwa [hPB] at this)
  have HPC := Lib.hid (fun wx (hx : Below w.heap.size w wx) (rc : Nat) (hr : RulesIn wx rc (la ++ lb)) => show Calls Tryz.prog 18 #[.pointer (some ⟨rc, 0, none⟩)] wx fun e' w' => e' = .returned (.string (PA ++ PB)) ∧ Below wx.heap.size wx w' from by
    have:=sc_print (shaped_below hsh hx) (ht.below hx) hr (by rw [List.length_append]; omega) (by omega)
    unfold StP at this
    rwa [hPQ] at this)
  have HAP:=Lib.hid (fun (wx : World) (ra rb : Nat) (hr : RulesIn wx ra la) (hs : RulesIn wx rb lb)=>sc_append hr hs hn)
  have HRT := Lib.hid (fun (rp : Nat) (A2 : Option Addr) (c2 : Nat) (wx : World) (hx : Below w.heap.size w wx) (hr : RulesIn wx rp (la ++ lb)) (hg : Row wx A2 (strsL x.groups)) => show Calls Tryz.prog 17 #[.pointer (some ⟨rp, 0, none⟩), .agg (RF A2 c2).toArray] wx (fun e' w' => e' = .returned (.agg (outC (rateF (la ++ lb) x))) ∧ Below wx.heap.size wx w') from
    sc_rate (hIV A2 c2) (shaped_below hsh hx) hg hr (by rw [List.length_append]; omega))
  have HRR := Lib.hid (fun (P : Nat → Prop) (Ar : Option Addr) (vs : List (Array Value)) (cr : Nat) (A2 : Option Addr) (c2 : Nat) (wx : World) (hP : ∀ k, P k → k < wx.heap.size) (hr : RsX P wx Ar ((la ++ lb).map nfR) vs) (hg : Row wx A2 (strsL x.groups)) (hok : ∀ r ∈ la ++ lb, RuleOk r) => show Calls Tryz.prog 25 #[.slice Ar ((la ++ lb).map nfR).length cr, .agg (RF A2 c2).toArray] wx (fun e' w' => e' = .returned (.agg (outC (rateF (la ++ lb) x))) ∧ Below wx.heap.size wx w') from by
    have := rf_rate (hIV A2 c2) hP hg hr (by rw [List.length_map, List.length_append]; omega) (fun r hr => by
      obtain ⟨r',h1,rfl⟩:=List.mem_map.1 hr
      exact ruOk_nf (hok r' h1)) cr
    rwa [rate_nf] at this)
  obtain ⟨m,hm⟩:∃ m,la.length + lb.length=m:=⟨_,rfl⟩
  have hml : ((la ++ lb).map nfR).length=m:=by rw [List.length_map,List.length_append,hm]
  have hmc : (la ++ lb).length=m:=by rw [List.length_append,hm]
  have y0 : IntKind.i64.wrap ((la.length : Int) + (lb.length : Int))=(m : Int):=by rw [IntWalk.i64_in _ (by omega)]; omega
  have y1 : ¬ (200 : Int) < (m : Int):=by omega
  have hpz : PA.size ≤ 25000:=by rw [← hPA,ofL_size]; exact p1
  have hqz : PB.size ≤ 25000:=by rw [← hPB,ofL_size]; exact p2
  have HML:=Lib.hid hml
  have HMC:=Lib.hid hmc
  have HXG:=Lib.hid hxg
  have HRS:=Lib.hid hrs
  have HST:=Lib.hid hst
  rw [hIC]
  clear hsh ht hsc hsd hsz hp hq hin hIC hRF hRF2 hIV hxg hrs hst htwo hPQ hTQ hpc hPA hPB p1 p2 hC hD hm hml hmc
  generalize (la ++ lb).map nfR=ln at *
  generalize la ++ lb=lc at *
  go_enter Tryz.func8, Tryz.ntmps8
  go_upto_region 1 with fail
  generalize w.alloc (.cells IC 26)=W0 at *
  go_upto_region 10 with (first
    | (go_at_call 12; (with_reducible refine (HSC.out _).mono ?_); rintro e' w' ⟨rfl, rfl⟩)
    | (go_at_call 12; (with_reducible refine (HSD.out _).mono ?_); rintro e' w' ⟨rfl, rfl⟩)
    | (go_at_call 11; (with_reducible refine (H1.out _ HB0.out).mono ?_); rintro e' w1 ⟨ra, rfl, hr1, hb1⟩; have HRA := Lib.hid hr1; have HX := Lib.hid ((hb1.block _ (heap_lt HX0.out)).trans HX0.out); have HB1 := Lib.hid (HB0.out.trans (hb1.mono HB0.out.size)); clear hb1 hr1)
    | (go_at_call 11; (with_reducible refine (H2.out _ HB1.out).mono ?_); rintro e' w2 ⟨rb, rfl, hr2, hb2⟩; have HRA := Lib.hid (HRA.out.below hb2); have HRB := Lib.hid hr2; have HX := Lib.hid ((hb2.block _ (heap_lt HX.out)).trans HX.out); have HB := Lib.hid (HB1.out.trans (hb2.mono HB1.out.size)); clear hb2 hr2)
    | (go_at_call 13; (with_reducible refine (HKN.out _ HB.out).mono ?_); rintro e' w5 ⟨rfl, hb5⟩; have HB := Lib.hid (HB.out.trans (hb5.mono HB.out.size)); have HRA := Lib.hid (HRA.out.below hb5); have HRB := Lib.hid (HRB.out.below hb5); have HX := Lib.hid ((hb5.block _ (heap_lt HX.out)).trans HX.out); clear hb5)
    | (go_at_call 18; (with_reducible refine (HPA.out _ HB.out _ HRA.out).mono ?_); rintro e' w6 ⟨rfl, hb6⟩; have HB := Lib.hid (HB.out.trans (hb6.mono HB.out.size)); have HRA := Lib.hid (HRA.out.below hb6); have HRB := Lib.hid (HRB.out.below hb6); have HX := Lib.hid ((hb6.block _ (heap_lt HX.out)).trans HX.out); clear hb6)
    | (go_at_call 18; (with_reducible refine (HPB.out _ HB.out _ HRB.out).mono ?_); rintro e' w6 ⟨rfl, hb6⟩; have HB := Lib.hid (HB.out.trans (hb6.mono HB.out.size)); have HRA := Lib.hid (HRA.out.below hb6); have HRB := Lib.hid (HRB.out.below hb6); have HX := Lib.hid ((hb6.block _ (heap_lt HX.out)).trans HX.out); clear hb6)
    | (go_at_call 26; (with_reducible refine (HAP.out _ _ _ HRA.out HRB.out).mono ?_); rintro e' w7 ⟨rc, rfl, hr7, hb7⟩; have HRC := Lib.hid hr7; have HB := Lib.hid (HB.out.trans (hb7.mono HB.out.size)); have HRA := Lib.hid (HRA.out.below hb7); have HRB := Lib.hid (HRB.out.below hb7); have HX := Lib.hid ((hb7.block _ (heap_lt HX.out)).trans HX.out); clear hb7 hr7)
    | (go_at_call 20; (with_reducible refine (sc_len HRA.out).mono ?_); rintro e' w8 ⟨rfl, rfl⟩)
    | (go_at_call 20; (with_reducible refine (sc_len HRB.out).mono ?_); rintro e' w8 ⟨rfl, rfl⟩)
    | (go_at_call 21; (with_reducible refine (H3.out _).mono ?_); rintro e' w9 ⟨Ar, cr, vs, rfl, hrx, hb9⟩; have HRX := Lib.hid hrx; have HP9 := Lib.hid hb9.size; have HB := Lib.hid (HB.out.trans (hb9.mono HB.out.size)); have HRA := Lib.hid (HRA.out.below hb9); have HRB := Lib.hid (HRB.out.below hb9); have HRC := Lib.hid (HRC.out.below hb9); have HX := Lib.hid ((hb9.block _ (heap_lt HX.out)).trans HX.out); clear hb9 hrx))
  have oe:=in_of (in_load HX.out HSZ.out)
  have oo:=oe.1
  have ee:=oe.2
  clear oe
  obtain ⟨P,hP⟩:∃ P : Nat → Prop,P=(fun k=>w7.heap.size ≤ k ∧ k < w9.heap.size):=⟨_,rfl⟩
  rw [← hP] at HRX
  have HPZ:=Lib.hid (show ∀ k,P k → k < w9.heap.size from fun k hk=>by rw [hP] at hk; exact hk.2)
  clear hP
  go_upto_region 11 with (first
    | (go_at_call 15; (with_reducible refine (HTO.out _ HB.out).mono ?_); rintro e' w10 ⟨A2, c2, rfl, hg7, hb10⟩; have HG := Lib.hid hg7; have HB := Lib.hid (HB.out.trans (hb10.mono HB.out.size)); have HRA := Lib.hid (HRA.out.below hb10); have HRB := Lib.hid (HRB.out.below hb10); have HRC := Lib.hid (HRC.out.below hb10); have HRX := Lib.hid (HRX.out.below HPZ.out hb10); have HPZ := Lib.hid (fun k hk => Nat.lt_of_lt_of_le (HPZ.out k hk) hb10.size); have hst := HST.out A2 c2 w10; have hrs := HRS.out A2 c2; clear hb10 hg7))
  have HB8:=Lib.hid (alloc_bel w10 (.cells (RF A2 c2).toArray 35))
  have HX8:=Lib.hid (heap_alloc_new w10 (.cells (RF A2 c2).toArray 35))
  have HBW:=Lib.hid (HB.out.trans (HB8.out.mono HB.out.size))
  have HRA8:=Lib.hid (HRA.out.below HB8.out)
  have HRB8:=Lib.hid (HRB.out.below HB8.out)
  have HRC8:=Lib.hid (HRC.out.below HB8.out)
  have HRX8:=Lib.hid (HRX.out.below HPZ.out HB8.out)
  have HPZ8:=Lib.hid (fun k hk=>Nat.lt_of_lt_of_le (HPZ.out k hk) HB8.out.size)
  have HG8:=Lib.hid (show Row (w10.alloc (.cells (RF A2 c2).toArray 35)) A2 (strsL x.groups) from by rw [HXG.out]; exact HG.out.below HB8.out)
  have HBK8:=Lib.hid (fun wx=>HBK.out A2 c2 wx)
  have HRT8:=Lib.hid (fun wx=>HRT.out rc A2 c2 wx)
  have HRR8:=Lib.hid (fun wx=>HRR.out P Ar vs cr A2 c2 wx)
  have hsi : (Tryz.prog.info? 35).map (·.size)=some (RF A2 c2).length:=by rw [HRS.out]; exact size_InR
  have hty:=Tryz.underlying35
  have hokc : ∀ r ∈ lc, RuleOk r := by
    obtain ⟨A1,c1,vs1,_,_,_,_,_,hok⟩:=HRC8.out
    exact hok
  clear hst hrs oo ee HG HRA HRB HRC HRX HPZ HB8 HX HTO HBK HST HRS HKN HRT HRR H1 H2 H3 HB HXG HX0 HB0 HP9 HAP HSC HSD
  generalize RF A2 c2=L at *
  generalize w10.alloc (.cells L.toArray 35)=W8 at *
  generalize w10.heap.size=px at *
  have hpz8 : px < W8.heap.size:=heap_lt HX8.out
  have hz:=hpz8
  have CPA:=Lib.hid (fun (wx : World) (hx : RtR W8 px L wx)=>HPA.out wx (HBW.out.trans (hx.2.mono HBW.out.size)) ra (HRA8.out.below hx.2))
  have CPB:=Lib.hid (fun (wx : World) (hx : RtR W8 px L wx)=>HPB.out wx (HBW.out.trans (hx.2.mono HBW.out.size)) rb (HRB8.out.below hx.2))
  have CPC:=Lib.hid (fun (wx : World) (hx : RtR W8 px L wx)=>HPC.out wx (HBW.out.trans (hx.2.mono HBW.out.size)) rc (HRC8.out.below hx.2))
  have CLC := Lib.hid (fun (wx : World) (hx : RtR W8 px L wx) => show Calls Tryz.prog 20 #[.pointer (some ⟨rc, 0, none⟩)] wx fun e' w' => e' = .returned (.int .i64 (m : Int)) ∧ Below wx.heap.size wx w' from by
    refine (sc_len (HRC8.out.below hx.2)).mono fun e' w' ⟨h1, h2⟩ => ?_
    subst h2
    exact ⟨by rw [h1,HMC.out],Below.refl _ _⟩)
  have RTA:=Lib.hid (fun (wx : World) (hx : RtR W8 px L wx)=>HRT8.out wx (HBW.out.trans (hx.2.mono HBW.out.size)) (HRC8.out.below hx.2) (HG8.out.below hx.2))
  have RTB:=Lib.hid (fun (wx : World) (hx : RtR W8 px L wx)=>HRR8.out wx (fun k hk=>Nat.lt_of_lt_of_le (HPZ8.out k hk) hx.2.size) (HRX8.out.below HPZ8.out hx.2) (HG8.out.below hx.2) hokc)
  rw [HML.out] at RTB
  have HK := Lib.hid (show RtR W8 px L W8.drew from ⟨fun j v hv => by
    rw [Nat.zero_add,Lib.cell_of_heap (w:=W8.drew) HX8.out]; simpa using hv,(Below.refl _ _).drew⟩)
  have HRZ:=Lib.hid (fun wx=>law_result (rateF lc x) wx)
  generalize rateF lc x=o at *
  obtain ⟨s1,k1',w1',p1'⟩:=o
  have RTA2:=Lib.hid (show ∀ wx,RtR W8 px L wx → Calls Tryz.prog 17 #[.pointer (some ⟨rc,0,none⟩),.agg L.toArray] wx fun e' w'=>e'=.returned (.agg #[.int .i64 s1,.bool k1',.bool w1',.int .i64 p1']) ∧ Below wx.heap.size wx w' from RTA.out)
  have RTB2:=Lib.hid (show ∀ wx,RtR W8 px L wx → Calls Tryz.prog 25 #[.slice Ar m cr,.agg L.toArray] wx fun e' w'=>e'=.returned (.agg #[.int .i64 s1,.bool k1',.bool w1',.int .i64 p1']) ∧ Below wx.heap.size wx w' from RTB.out)
  have HRZ2:=Lib.hid (show ∀ wx,Calls Tryz.prog 24 #[.agg #[.int .i64 s1,.bool k1',.bool w1',.int .i64 p1']] wx fun e' w'=>e'=.returned (.agg #[.int .i64 s1,.bool k1',.bool w1',.int .i64 p1']) ∧ Below wx.heap.size wx w' from HRZ.out)
  have hq:=fun wx=>res_eq s1 p1' k1' w1' wx
  have hOI : ∀ wx : World,wx.rangeAt px 0 L → OkInR wx (.pointer (some ⟨px,0,none⟩)) ∧ inOfR wx (.pointer (some ⟨px,0,none⟩))=.agg L.toArray:=fun wx h=>inR_of (range_loadS (T:=35) h hty rfl hsi)
  have hOA:=fun (wx : World) (h : wx.rangeAt px 0 L)=>(hOI wx h).1
  have hOB:=fun (wx : World) (h : wx.rangeAt px 0 L)=>(hOI wx h).2
  have hml:=HML.out
  have hcat : OkCat (.string PA) (.string PB):=⟨PA,PB,rfl,rfl,by omega⟩
  have hcat2 : catV (.string PA) (.string PB)=.string (PA ++ PB):=rfl
  clear hOI RTA RTB HRZ HRA8 HRB8 HRC8 HRX8 HPZ8 HG8 HRT8 HRR8 HX8 hokc hty hsi HPA HPB HPC HML HMC
  go_region_held3 (fun w' => w'.rangeAt px 0 L ∧ Below W8.heap.size W8 w')
    (first | exact HK.out | exact RtR.later (by assumption) hb9 hz)
    (first
      | ((go_at_call 18; (with_reducible refine (CPA.out _ ?hh).mono ?_); (case hh => assumption); rintro e' w9 ⟨rfl, hb9⟩))
      | ((go_at_call 18; (with_reducible refine (CPB.out _ ?hh).mono ?_); (case hh => assumption); rintro e' w9 ⟨rfl, hb9⟩))
      | ((go_at_call 18; (with_reducible refine (CPC.out _ ?hh).mono ?_); (case hh => assumption); rintro e' w9 ⟨rfl, hb9⟩))
      | ((go_at_call 20; (with_reducible refine (CLC.out _ ?hh).mono ?_); (case hh => assumption); rintro e' w9 ⟨rfl, hb9⟩))
      | ((go_at_call 14; (with_reducible refine (HBK8.out _).mono ?_); rintro e' w9 ⟨rfl, hb9⟩))
      | ((go_at_call 17; (with_reducible refine (RTA2.out _ ?hh).mono ?_); (case hh => assumption); rintro e' w9 ⟨rfl, hb9⟩))
      | ((go_at_call 25; (with_reducible refine (RTB2.out _ ?hh).mono ?_); (case hh => assumption); rintro e' w9 ⟨rfl, hb9⟩))
      | ((go_at_call 24; (with_reducible refine (HRZ2.out _).mono ?_); rintro e' w9 ⟨rfl, hb9⟩)))
  rename_i hS
  go_wp2_with fail
  go_ret
  exact ⟨rfl,HBW.out.trans (hS.2.mono HBW.out.size)⟩
end Go.Proofs.YtannhfnpigiggaaGreatDoor
