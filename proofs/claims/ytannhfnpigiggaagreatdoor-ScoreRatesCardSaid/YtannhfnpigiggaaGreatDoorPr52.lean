/- Lemmas and walks, part 52. -/
import Derived.Test.YtannhfnpigiggaaGreatDoorPr42
import Derived.Test.YtannhfnpigiggaaGreatDoorPr51
import Derived.Deep.DeepCutAuto
namespace Go.Proofs.YtannhfnpigiggaaGreatDoor
set_option linter.unusedSimpArgs false
set_option linter.unusedVariables false
open Go.RowKit
attribute [local go_sem ↓] wp_load_in wp_load_inR
theorem ex_load_inR {d:Option Tmp} {ty:TypeId} {pos:String} {af:Array Edge} {x:Operand} {ρ:Operand → Value} {w:World} {g:Option (Nat × Bool)} (h:OkInR w (ρ x)) :
  (execOp ρ { dst:=d,op:=.load 35 x,type:=ty,pos:=pos,after:=af,guard:=g }).run Tryz.prog w = .ok (.value (inOfR w (ρ x))) w:=by
 obtain ⟨u,hu⟩:=h
 rw [(inR_of hu).2]
 unfold execOp
 simp only [hu,Sem.run_bind,Sem.run_pure,Result.andThen_ok]
attribute [local go_sem ↓] ex_load_inR
abbrev RtR (W:World) (px:Nat) (L:List Value) (wx:World):Prop:=wx.rangeAt px 0 L ∧ Below W.heap.size W wx
theorem RtR.later {W wx wy:World} {px:Nat} {L:List Value} (h:RtR W px L wx) (hb:Below wx.heap.size wx wy) (hz:px < W.heap.size):RtR W px L wy :=
 ⟨fun j v hv => by rw [World.cell?_of_block (hb.block px (Nat.lt_of_lt_of_le hz h.2.size))];exact h.1 j v hv,h.2.trans (hb.mono h.2.size)⟩
set_option maxHeartbeats 16000000 in
set_option maxRecDepth 100000 in
theorem rates_good {c0 C : ByteArray} {N S B : ByteArray} {f : Nat → Int} {A : Option Addr} {l : List Bs} {gc : Nat} {a b c d e : Int} {w : World} (hin : InOk N S B f A l w) (hsc : ∀ wx, Calls Tryz.prog 12 #[.string c0, .int .i64 2000] wx fun e w' => e = .returned (.string C) ∧ wx = w') (hsh : w.ShapedOpen Tryz.prog) (ht : TabN w)
    {la : List RuleS} (hp : parseG (toL C) = .ok la) (ix : Int) :
    Calls Tryz.prog 7 #[.string c0, .agg (inX N S B f (.slice A l.length gc) a b c d e), .int .i64 ix] w fun e w' => e = .returned (.bool true) ∧ Below w.heap.size w w' := by
  have HSC := Lib.hid hsc
  obtain ⟨IC, hIC⟩ : ∃ IC, inX N S B f (.slice A l.length gc) a b c d e = IC := ⟨_, rfl⟩
  have hsz : IC.size = 25 := by rw [← hIC]; rfl
  obtain ⟨RF, hRF⟩ : ∃ RF : Option Addr → Nat → List Value, (fun A2 c2 => (inX (N.extract 0 (min N.size 300)) (S.extract 0 (min S.size 300)) (B.extract 0 (min B.size 300)) f (.slice A2 ((l.take 8).map (·.take 80)).length c2) a b c d e).toList) = RF := ⟨_, rfl⟩
  have hRF2 : ∀ A2 c2, inX (N.extract 0 (min N.size 300)) (S.extract 0 (min S.size 300)) (B.extract 0 (min B.size 300)) f (.slice A2 ((l.take 8).map (·.take 80)).length c2) a b c d e = (RF A2 c2).toArray := fun A2 c2 => by rw [← hRF]
  have HTO := Lib.hid (fun wx (hx : Below w.heap.size w wx) => show Calls Tryz.prog 15 #[.agg IC] wx (fun e' w' => ∃ A2 c2, e' = .returned (.agg (RF A2 c2).toArray) ∧ Row w' A2 (strsL ((l.take 8).map (·.take 80))) ∧ Below wx.heap.size wx w') from by
    have h := law_to_start N S B f A l gc a b c d e wx hin.nz hin.sz hin.bz hin.lz (hin.rz.below hx) hin.ez
    rw [hIC] at h
    refine h.mono fun e' w' ⟨A2, c2, h1, h2, h3⟩ => ⟨A2, c2, ?_, h2, h3⟩
    rw [h1, hRF2])
  have HBK := Lib.hid (fun A2 c2 wx => show Calls Tryz.prog 14 #[.agg (RF A2 c2).toArray] wx (fun e' w' => e' = .returned (.agg (RF A2 c2).toArray) ∧ Below wx.heap.size wx w') from by
    rw [← hRF2]; exact law_back _ _ _ f A2 _ c2 a b c d e wx)
  have hst : ∀ A2 c2 (wx : World), (storeCells ⟨wx.heap.size, 0, none⟩ (RF A2 c2) 0).run Tryz.prog (wx.alloc (.cells inZ 35)) = .ok () (wx.alloc (.cells (RF A2 c2).toArray 35)) := fun A2 c2 wx => by
    have h := run_storeCells_new (P := Tryz.prog) wx 35 inZ (RF A2 c2).toArray (by rw [← hRF2]; kernel_rfl) (by rw [← hRF2]; rfl) (by rw [← hRF2]; simp [Value.oneCell'])
    simpa using h
  have hrs : ∀ A2 c2, (RF A2 c2).length = 25 := fun A2 c2 => by rw [← hRF]; rfl
  have hIV : ∀ A2 c2, InV (inS (N.extract 0 (min N.size 300)) (S.extract 0 (min S.size 300)) (B.extract 0 (min B.size 300)) f ((l.take 8).map (·.take 80)) a b c d e) (RF A2 c2).toArray A2 c2 := fun A2 c2 => by
    rw [← hRF2]
    have hx : ∀ (t : ByteArray), (t.extract 0 (min t.size 300)).size ≤ 1000000 := fun t => by
      have := congrArg List.length (short_toL t 300)
      rw [toL_length, List.length_take] at this; omega
    refine inV_of (hx N) (hx S) (hx B) hin.fz (by simp; omega) (fun g hg => ?_) A2 c2
    simp only [List.mem_map] at hg
    obtain ⟨g', _, rfl⟩ := hg
    rw [List.length_take]; omega
  have hxg : (inS (N.extract 0 (min N.size 300)) (S.extract 0 (min S.size 300)) (B.extract 0 (min B.size 300)) f ((l.take 8).map (·.take 80)) a b c d e).groups = (l.take 8).map (·.take 80) := rfl
  generalize inS (N.extract 0 (min N.size 300)) (S.extract 0 (min S.size 300)) (B.extract 0 (min B.size 300)) f ((l.take 8).map (·.take 80)) a b c d e = x at *
  have HB0 := Lib.hid (alloc_bel w (.cells IC 26))
  have HX0 := Lib.hid (show (w.alloc (.cells IC 26)).heap[w.heap.size]? = some (.cells IC 26 (0, 0)) from in_new w IC)
  have HKN := Lib.hid (fun wx (hx : Below w.heap.size w wx) => law_known wx (shaped_below hsh hx) (ht.below hx))
  have HSZ := Lib.hid hsz
  have H1 := Lib.hid (fun wx (hx : Below w.heap.size w wx) => pa_ok (shaped_below hsh hx) hp)
  have H2 := Lib.hid (fun wx => rf_parse C wx hp)
  have hfew := parse_few hp
  have HRT := Lib.hid (fun (rp : Nat) (A2 : Option Addr) (c2 : Nat) (wx : World) (hx : Below w.heap.size w wx) (hr : RulesIn wx rp la) (hg : Row wx A2 (strsL x.groups)) => show Calls Tryz.prog 17 #[.pointer (some ⟨rp, 0, none⟩), .agg (RF A2 c2).toArray] wx (fun e' w' => e' = .returned (.agg (outC (rateF la x))) ∧ Below wx.heap.size wx w') from
    sc_rate (hIV A2 c2) (shaped_below hsh hx) hg hr hfew)
  have HRR := Lib.hid (fun (P : Nat → Prop) (Ar : Option Addr) (vs : List (Array Value)) (cr : Nat) (A2 : Option Addr) (c2 : Nat) (wx : World) (hP : ∀ k, P k → k < wx.heap.size) (hr : RsX P wx Ar la vs) (hg : Row wx A2 (strsL x.groups)) (hok : ∀ r ∈ la, RuleOk r) => show Calls Tryz.prog 25 #[.slice Ar la.length cr, .agg (RF A2 c2).toArray] wx (fun e' w' => e' = .returned (.agg (outC (rateF la x))) ∧ Below wx.heap.size wx w') from
    rf_rate (hIV A2 c2) hP hg hr hfew hok cr)
  have HAO := Lib.hid (fun (rp : Nat) (A2 : Option Addr) (c2 : Nat) (wx : World) (hr : RulesIn wx rp la) (hi : ix < 0 ∨ (la.length : Int) ≤ ix) => rs_applies_out (RF A2 c2).toArray hr hfew ix hi)
  have HAI := Lib.hid (fun (rp : Nat) (A2 : Option Addr) (c2 : Nat) (wx : World) (hx : Below w.heap.size w wx) (hr : RulesIn wx rp la) (hg : Row wx A2 (strsL x.groups)) (k : Nat) (hk : k < la.length) => rs_applies_in (hIV A2 c2) (shaped_below hsh hx) hg hr hfew k hk)
  have HRA' := Lib.hid (fun (P : Nat → Prop) (A2 : Option Addr) (c2 : Nat) (wx : World) (hP : ∀ k, P k → k < wx.heap.size) (hg : Row wx A2 (strsL x.groups)) (r : RuleS) (kk : Int) (B0 : Option Addr) (N0 cc : Nat) (f0 op : ByteArray) (n0 : Int) (t0 : ByteArray) (hc : condX P wx r.cond (xC kk (.slice B0 N0 cc) f0 op n0 t0)) (a0 : ByteArray) (m u : Int) => rf_applies (hIV A2 c2) hP hg hc a0 m u)
  have HXG := Lib.hid hxg
  have HRS := Lib.hid hrs
  have HST := Lib.hid hst
  rw [hIC]
  clear hsh ht hsc hsz hp hin hIC hRF hRF2 hIV hxg hrs hst
  go_enter Tryz.func7, Tryz.ntmps7
  go_upto_region 1 with fail
  generalize w.alloc (.cells IC 26) = W0 at *
  go_upto_region 6 with (first
    | (go_at_call 12; (with_reducible refine (HSC.out _).mono ?_); rintro e' w' ⟨rfl, rfl⟩)
    | (go_at_call 11; (with_reducible refine (H1.out _ HB0.out).mono ?_); rintro e' w1 ⟨ra, rfl, hr1, hb1⟩; have HRA := Lib.hid hr1; have HX := Lib.hid ((hb1.block _ (heap_lt HX0.out)).trans HX0.out); have HB := Lib.hid (HB0.out.trans (hb1.mono HB0.out.size)); clear hb1 hr1)
    | (go_at_call 13; (with_reducible refine (HKN.out _ HB.out).mono ?_); rintro e' w5 ⟨rfl, hb5⟩; have HB := Lib.hid (HB.out.trans (hb5.mono HB.out.size)); have HRA := Lib.hid (HRA.out.below hb5); have HX := Lib.hid ((hb5.block _ (heap_lt HX.out)).trans HX.out); clear hb5)
    | (go_at_call 21; (with_reducible refine (H2.out _).mono ?_); rintro e' w6 ⟨Ar, cr, vs, rfl, hrx, hb6⟩; have HP6 := Lib.hid hb6.size; have HRX := Lib.hid hrx; have HB := Lib.hid (HB.out.trans (hb6.mono HB.out.size)); have HRA := Lib.hid (HRA.out.below hb6); have HX := Lib.hid ((hb6.block _ (heap_lt HX.out)).trans HX.out); clear hb6 hrx))
  have oe := in_of (in_load HX.out HSZ.out)
  have oo := oe.1
  have ee := oe.2
  clear oe
  obtain ⟨P, hP⟩ : ∃ P : Nat → Prop, P = (fun k => w5.heap.size ≤ k ∧ k < w6.heap.size) := ⟨_, rfl⟩
  rw [← hP] at HRX
  have HPZ := Lib.hid (show ∀ k, P k → k < w6.heap.size from fun k hk => by rw [hP] at hk; exact hk.2)
  clear hP
  go_upto_region 7 with (first
    | (go_at_call 15; (with_reducible refine (HTO.out _ HB.out).mono ?_); rintro e' w7 ⟨A2, c2, rfl, hg7, hb7⟩; have HG := Lib.hid hg7; have HB := Lib.hid (HB.out.trans (hb7.mono HB.out.size)); have HRA := Lib.hid (HRA.out.below hb7); have HRX := Lib.hid (HRX.out.below HPZ.out hb7); have HPZ := Lib.hid (fun k hk => Nat.lt_of_lt_of_le (HPZ.out k hk) hb7.size); have hst := HST.out A2 c2 w7; have hrs := HRS.out A2 c2; clear hb7 hg7))
  have HB8 := Lib.hid (alloc_bel w7 (.cells (RF A2 c2).toArray 35))
  have HX8 := Lib.hid (heap_alloc_new w7 (.cells (RF A2 c2).toArray 35))
  have HBW := Lib.hid (HB.out.trans (HB8.out.mono HB.out.size))
  have HRA8 := Lib.hid (HRA.out.below HB8.out)
  have HRX8 := Lib.hid (HRX.out.below HPZ.out HB8.out)
  have HPZ8 := Lib.hid (fun k hk => Nat.lt_of_lt_of_le (HPZ.out k hk) HB8.out.size)
  have HG8 := Lib.hid (show Row (w7.alloc (.cells (RF A2 c2).toArray 35)) A2 (strsL x.groups) from by rw [HXG.out]; exact HG.out.below HB8.out)
  have HBK8 := Lib.hid (fun wx => HBK.out A2 c2 wx)
  have HRT8 := Lib.hid (fun wx => HRT.out ra A2 c2 wx)
  have HRR8 := Lib.hid (fun wx => HRR.out P Ar vs cr A2 c2 wx)
  have HAO8 := Lib.hid (fun wx => HAO.out ra A2 c2 wx)
  have HAI8 := Lib.hid (fun wx => HAI.out ra A2 c2 wx)
  have HRA8' := Lib.hid (fun wx => HRA'.out P A2 c2 wx)
  have hsi : (Tryz.prog.info? 35).map (·.size) = some (RF A2 c2).length := by rw [HRS.out]; exact size_InR
  have hty := Tryz.underlying35
  have hrs25 : (RF A2 c2).toArray.size = 25 := by simp [HRS.out]
  have HSL := Lib.hid hrs25
  clear hst hrs oo ee HG HRA HRX HPZ HB8 HX HTO HBK HST HRS HKN HRT HRR HAO HAI HRA' H1 H2 HB HXG HX0 HB0 hrs25 HP6
  go_upto_region 7 with fail
  generalize RF A2 c2 = L at *
  generalize w7.alloc (.cells L.toArray 35) = W8 at *
  generalize w7.heap.size = px at *
  have hpz : px < W8.heap.size := heap_lt HX8.out
  obtain ⟨oi, ei⟩ := inR_of (inR_load HX8.out HSL.out)
  have OI := Lib.hid oi
  have EI := Lib.hid ei
  go_cut [16, 17] (fun s16 s17 wx => ∃ (q : Bool) (er : Int), s16 = .bool q ∧ s17 = .int .i64 er ∧ Below W8.heap.size W8 wx ∧ ((∃ (k : Nat) (hk : k < la.length), ix = (k : Int) ∧ q = appS la[k] x ∧ er = 0) ∨ ((ix < 0 ∨ (la.length : Int) ≤ ix) ∧ q = false ∧ er = 2)))
  case first =>
    by_cases hix : 0 ≤ ix ∧ ix < (la.length : Int)
    · obtain ⟨k, hk⟩ : ∃ k : Nat, ix = (k : Int) := ⟨ix.toNat, by omega⟩
      have hkl : k < la.length := by omega
      subst hk
      have HAP := Lib.hid (fun (wx : World) (hx : Below W8.heap.size W8 wx) => HAI8.out wx (HBW.out.trans (hx.mono HBW.out.size)) (HRA8.out.below hx) (HG8.out.below hx) k hkl)
      clear hix
      go_wp2_with (first
        | (go_at_call 14; (with_reducible refine (HBK8.out _).mono ?_); rintro e' w8 ⟨rfl, hb8⟩; have HB9 := Lib.hid hb8; clear hb8)
        | (go_at_call 22; (with_reducible refine (HAP.out _ HB9.out).mono ?_); rintro e' w9 ⟨rfl, hb9⟩; have HB9 := Lib.hid (HB9.out.trans (hb9.mono HB9.out.size)); clear hb9))
      go_meet
      exact ⟨_, _, rfl, rfl, HB9.out, .inl ⟨k, hkl, rfl, rfl, rfl⟩⟩
    · have hix2 : ix < 0 ∨ (la.length : Int) ≤ ix := by omega
      have HAP := Lib.hid (fun (wx : World) (hx : Below W8.heap.size W8 wx) => HAO8.out wx (HRA8.out.below hx) hix2)
      have HX2 := Lib.hid hix2
      clear hix hix2
      go_wp2_with (first
        | (go_at_call 14; (with_reducible refine (HBK8.out _).mono ?_); rintro e' w8 ⟨rfl, hb8⟩; have HB9 := Lib.hid hb8; clear hb8)
        | (go_at_call 22; (with_reducible refine (HAP.out _ HB9.out).mono ?_); rintro e' w9 ⟨rfl, hb9⟩; have HB9 := Lib.hid (HB9.out.trans (hb9.mono HB9.out.size)); clear hb9))
      go_meet
      exact ⟨_, _, rfl, rfl, HB9.out, .inr ⟨HX2.out, rfl, rfl⟩⟩
  case rest =>
    obtain ⟨q, er, rfl, rfl, hb9, hcs⟩ := hcut
    have HB9 := Lib.hid hb9
    have HCS := Lib.hid hcs
    clear hb9 hcs oi ei
    obtain ⟨W9, rfl⟩ : ∃ W9 : World, W9 = wc := ⟨_, rfl⟩
    go_upto_region 8 with fail
    go_cut [58] (fun s58 wx => s58 = .bool (decide (ix < 0 ∨ (la.length : Int) ≤ ix)) ∧ W9 = wx)
    case first =>
      by_cases h0 : ix < 0
      · have h1 := Lib.hid (show decide (ix < 0 ∨ (la.length : Int) ≤ ix) = true from decide_eq_true (.inl h0))
        go_wp2_with fail
        go_meet
        exact ⟨by rw [h1.out], rfl⟩
      · go_wp2_with fail
        go_meet
        refine ⟨?_, rfl⟩
        congr 1
        rw [decide_eq_decide]
        omega
    case rest =>
      obtain ⟨rfl, hwc⟩ := hcut
      subst hwc
      go_upto_if 58 with fail
      go_cut [] (fun wx => Below W9.heap.size W9 wx)
      case first =>
        rcases HCS.out with ⟨k, hk, rfl, rfl, rfl⟩ | ⟨hix, rfl, rfl⟩
        · have h1 : decide ((k : Int) < 0 ∨ (la.length : Int) ≤ (k : Int)) = false := decide_eq_false (by omega)
          have HRC := HRX8.out.below HPZ8.out HB9.out
          obtain ⟨bb, off, kk, B0, N0, cc, f0, op, n0, t0, rfl, hbb, hcx, d0, d1, d2, d3, d4, d5, d6, d7, d8, d9⟩ := HRC.at hk
          have hz9 := HB9.out.size
          have HAP := Lib.hid (fun (W : World) (hW : W = W9.drew) => HRA8'.out W (by subst hW; exact fun j hj => Nat.lt_of_lt_of_le (HPZ8.out j hj) hz9) (by subst hW; exact (HG8.out.below HB9.out).below (Below.refl _ _).drew) la[k] kk B0 N0 cc f0 op n0 t0 (by subst hW; exact hcx.keep (fun _ _ => rfl) (Nat.le_refl _)) (ofL la[k].act) la[k].amt (tilI la[k].til))
          have HXC := Lib.hid ((HB9.out.block px hpz).trans HX8.out)
          obtain ⟨oi, ei⟩ := inR_of (inR_load (w := W9.drew) HXC.out HSL.out)
          have k0 : (0 : Int) ≤ (k : Int) := by omega
          have k1 : (k : Int) < (la.length : Int) := by omega
          clear HRC hcx
          rw [h1]
          generalize ofL la[k].act = AS at *
          generalize la[k].amt = am at *
          generalize tilI la[k].til = tl at *
          generalize la[k].cond.isSome = ci at *
          generalize appS la[k] x = q at *
          go_upto_region 11 with fail
          go_region_law ((go_simp; go_at_call 23; (with_reducible refine (HAP.out _ rfl).mono ?_); rintro e' w10 ⟨rfl, hb10⟩; have HB10 := Lib.hid hb10; dsimp only))
          all_goals
            go_wp2_with fail
            go_meet
            exact (Below.refl _ _).drew.trans HB10.out
        · have h1 : decide (ix < 0 ∨ (la.length : Int) ≤ ix) = true := decide_eq_true hix
          rw [h1]
          go_wp2_with fail
          go_meet
          exact Below.refl _ _
      case rest =>
        have HBC := Lib.hid (HB9.out.trans (hcut.mono HB9.out.size))
        clear hcut HCS HAO8 HAI8 HRA8'
        have hok : ∀ r ∈ la, RuleOk r := by
          obtain ⟨A1, c1, vs1, _, _, _, _, _, hok⟩ := HRA8.out
          exact hok
        have RTA := Lib.hid (fun (wx : World) (hx : RtR wc px L wx) => HRT8.out wx (HBW.out.trans ((HBC.out.trans (hx.2.mono HBC.out.size)).mono HBW.out.size)) (HRA8.out.below (HBC.out.trans (hx.2.mono HBC.out.size))) (HG8.out.below (HBC.out.trans (hx.2.mono HBC.out.size))))
        have RTB := Lib.hid (fun (wx : World) (hx : RtR wc px L wx) => HRR8.out wx (fun k hk => Nat.lt_of_lt_of_le (HPZ8.out k hk) (HBC.out.trans (hx.2.mono HBC.out.size)).size) (HRX8.out.below HPZ8.out (HBC.out.trans (hx.2.mono HBC.out.size))) (HG8.out.below (HBC.out.trans (hx.2.mono HBC.out.size))) hok)
        have HXC := Lib.hid ((HBC.out.block px hpz).trans HX8.out)
        have HK := Lib.hid (show RtR wc px L wc.drew from ⟨fun j v hv => by
          rw [Nat.zero_add, Lib.cell_of_heap (w := wc.drew) HXC.out]; simpa using hv, (Below.refl _ _).drew⟩)
        have hz := heap_lt HXC.out
        have HBZ := Lib.hid (HBW.out.trans (HBC.out.mono HBW.out.size))
        have HRZ := Lib.hid (fun wx => law_result (rateF la x) wx)
        generalize rateF la x = o at *
        obtain ⟨s1, k1, w1', p1⟩ := o
        have RTA2 := Lib.hid (show ∀ wx, RtR wc px L wx → Calls Tryz.prog 17 #[.pointer (some ⟨ra, 0, none⟩), .agg L.toArray] wx fun e' w' => e' = .returned (.agg #[.int .i64 s1, .bool k1, .bool w1', .int .i64 p1]) ∧ Below wx.heap.size wx w' from RTA.out)
        have RTB2 := Lib.hid (show ∀ wx, RtR wc px L wx → Calls Tryz.prog 25 #[.slice Ar la.length cr, .agg L.toArray] wx fun e' w' => e' = .returned (.agg #[.int .i64 s1, .bool k1, .bool w1', .int .i64 p1]) ∧ Below wx.heap.size wx w' from RTB.out)
        have HRZ2 := Lib.hid (show ∀ wx, Calls Tryz.prog 24 #[.agg #[.int .i64 s1, .bool k1, .bool w1', .int .i64 p1]] wx fun e' w' => e' = .returned (.agg #[.int .i64 s1, .bool k1, .bool w1', .int .i64 p1]) ∧ Below wx.heap.size wx w' from HRZ.out)
        have hq := fun wx => res_eq s1 p1 k1 w1' wx
        have hOI : ∀ wx : World, wx.rangeAt px 0 L → OkInR wx (.pointer (some ⟨px, 0, none⟩)) ∧ inOfR wx (.pointer (some ⟨px, 0, none⟩)) = .agg L.toArray := fun wx h => inR_of (range_loadS (T := 35) h hty rfl hsi)
        have hOA := fun (wx : World) (h : wx.rangeAt px 0 L) => (hOI wx h).1
        have hOB := fun (wx : World) (h : wx.rangeAt px 0 L) => (hOI wx h).2
        clear hOI RTA RTB HRZ HRA8 HRX8 HPZ8 HG8 HRT8 HRR8 HX8 HXC hok hty hsi HSC HSL OI EI
        go_upto_region 13 with fail
        go_region_held3 (fun w' => w'.rangeAt px 0 L ∧ Below wc.heap.size wc w')
          (first | exact HK.out | exact RtR.later (by assumption) hb9 hz)
          (first
            | ((go_at_call 14; (with_reducible refine (HBK8.out _).mono ?_); rintro e' w9 ⟨rfl, hb9⟩))
            | ((go_at_call 17; (with_reducible refine (RTA2.out _ ?hh).mono ?_); (case hh => assumption); rintro e' w9 ⟨rfl, hb9⟩))
            | ((go_at_call 25; (with_reducible refine (RTB2.out _ ?hh).mono ?_); (case hh => assumption); rintro e' w9 ⟨rfl, hb9⟩))
            | ((go_at_call 24; (with_reducible refine (HRZ2.out _).mono ?_); rintro e' w9 ⟨rfl, hb9⟩)))
        rename_i hS
        go_wp2_with fail
        go_ret
        exact ⟨rfl, HBZ.out.trans (hS.2.mono HBZ.out.size)⟩
end Go.Proofs.YtannhfnpigiggaaGreatDoor
