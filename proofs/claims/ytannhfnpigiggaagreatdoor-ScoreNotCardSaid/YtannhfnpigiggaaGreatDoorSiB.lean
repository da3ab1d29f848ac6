/- ScoreNot where both texts hold one rule. -/
import Derived.Test.YtannhfnpigiggaaGreatDoorSiA
namespace Go.Proofs.YtannhfnpigiggaaGreatDoor
set_option linter.unusedSimpArgs false
set_option linter.unusedVariables false
open Go.RowKit
attribute [local go_sem ↓] wp_load_in fld_res2

theorem ex_load_in {d : Option Tmp} {ty : TypeId} {pos : String} {af : Array Edge} {x : Operand} {ρ : Operand → Value} {w : World} {g : Option (Nat × Bool)} (h : OkIn w (ρ x)) :
    (execOp ρ { dst := d, op := .load 26 x, type := ty, pos := pos, after := af, guard := g }).run Tryz.prog w = .ok (.value (inOf w (ρ x))) w := by
  obtain ⟨u, hu⟩ := h
  rw [(in_of hu).2]
  unfold execOp
  simp only [hu, Sem.run_bind, Sem.run_pure, Result.andThen_ok]
attribute [local go_sem ↓] ex_load_in
abbrev RtP (W : World) (px : Nat) (L : List Value) (wx : World) : Prop := wx.rangeAt px 0 L ∧ Below W.heap.size W wx
theorem RtP.later {W wx wy : World} {px : Nat} {L : List Value} (h : RtP W px L wx) (hb : Below wx.heap.size wx wy) (hz : px < W.heap.size) : RtP W px L wy :=
  ⟨fun j v hv => by rw [World.cell?_of_block (hb.block px (Nat.lt_of_lt_of_le hz h.2.size))]; exact h.1 j v hv, h.2.trans (hb.mono h.2.size)⟩
set_option maxHeartbeats 16000000 in
set_option maxRecDepth 100000 in
theorem not_good {c0 C : ByteArray} {N S B : ByteArray} {f : Nat → Int} {A : Option Addr} {l : List Bs} {gc : Nat} {a b c d e : Int} {w : World} (hin : InOk N S B f A l w) (hsc : ∀ wx, Calls Tryz.prog 12 #[.string c0, .int .i64 500] wx fun e w' => e = .returned (.string C) ∧ wx = w') (hC : C.size ≤ 500) (hsh : w.ShapedOpen Tryz.prog) (ht : TabN w)
    {la lb : List RuleS} (hm : la.length = 1) (hn : lb.length = 1) (hp : parseG (toL ((⟨#[119, 97, 116, 99, 104, 32, 105, 102, 32]⟩ : ByteArray) ++ C)) = .ok la) (hq : parseG (toL (((⟨#[119, 97, 116, 99, 104, 32, 105, 102, 32, 110, 111, 116, 32, 40]⟩ : ByteArray) ++ C) ++ ⟨#[41]⟩)) = .ok lb) (hw : ∀ x, (rateF la x).watched = !(rateF lb x).watched) :
    Calls Tryz.prog 5 #[.string c0, .agg (inX N S B f (.slice A l.length gc) a b c d e)] w fun e w' => e = .returned (.bool true) ∧ Below w.heap.size w w' := by
  have HSC := Lib.hid hsc
  obtain ⟨IC, hIC⟩ : ∃ IC, inX N S B f (.slice A l.length gc) a b c d e = IC := ⟨_, rfl⟩
  have hsz : IC.size = 25 := by rw [← hIC]; rfl
  obtain ⟨RF, hRF⟩ : ∃ RF : Option Addr → Nat → List Value, (fun A2 c2 => (inX (N.extract 0 (min N.size 300)) (S.extract 0 (min S.size 300)) (B.extract 0 (min B.size 300)) f (.slice A2 ((l.take 8).map (·.take 80)).length c2) a b c d e).toList) = RF := ⟨_, rfl⟩
  have hRF2 : ∀ A2 c2, inX (N.extract 0 (min N.size 300)) (S.extract 0 (min S.size 300)) (B.extract 0 (min B.size 300)) f (.slice A2 ((l.take 8).map (·.take 80)).length c2) a b c d e = (RF A2 c2).toArray := fun A2 c2 => by rw [← hRF]
  have HTO := Lib.hid (fun wx (hx : Below w.heap.size w wx) => show Calls Tryz.prog 15 #[.agg IC] wx (fun e' w' => ∃ A2 c2, e' = .returned (.agg (RF A2 c2).toArray) ∧ Row w' A2 (strsL ((l.take 8).map (·.take 80))) ∧ Below wx.heap.size wx w') from by
    have h := law_to_start N S B f A l gc a b c d e wx hin.nz hin.sz hin.bz hin.lz (hin.rz.below hx) hin.ez
    rw [hIC] at h
    refine h.mono fun e' w' ⟨A2, c2, h1, h2, h3⟩ => ⟨A2, c2, ?_, h2, h3⟩
    rw [h1, hRF2])
  have HBK := Lib.hid (fun A2 c2 wx => show Calls Tryz.prog 14 #[.agg (RF A2 c2).toArray] wx (fun e' w' => e' = .returned (.agg (RF A2 c2).toArray) ∧ Below wx.heap.size wx w') from by
    rw [← hRF2]; exact law_back _ _ _ f A2 _ c2 a b c d e wx)
  have hst : ∀ A2 c2 (wx : World), (storeCells ⟨wx.heap.size, 0, none⟩ (RF A2 c2) 0).run Tryz.prog (wx.alloc (.cells inZ 26)) = .ok () (wx.alloc (.cells (RF A2 c2).toArray 26)) := fun A2 c2 wx => by
    have h := run_storeCells_new (P := Tryz.prog) wx 26 inZ (RF A2 c2).toArray (by rw [← hRF2]; kernel_rfl) (by rw [← hRF2]; rfl) (by rw [← hRF2]; simp [Value.oneCell'])
    simpa using h
  have hrs : ∀ A2 c2, (RF A2 c2).length = 25 := fun A2 c2 => by rw [← hRF]; rfl
  have hIV : ∀ A2 c2, InV (inS (N.extract 0 (min N.size 300)) (S.extract 0 (min S.size 300)) (B.extract 0 (min B.size 300)) f ((l.take 8).map (·.take 80)) a b c d e) (RF A2 c2).toArray A2 c2 := fun A2 c2 => by
    rw [← hRF2]
    have hx : ∀ (t : ByteArray), (t.extract 0 (min t.size 300)).size ≤ 1000000 := fun t => by
      have := congrArg List.length (short_toL t 300)
      rw [toL_length, List.length_take] at this; omega
    refine inV_of (hx N) (hx S) (hx B) hin.fz (by simp; omega) (fun g hg => ?_) A2 c2
    simp only [List.mem_map] at hg
    obtain ⟨g', _, rfl⟩ := hg
    rw [List.length_take]; omega
  have hxg : (inS (N.extract 0 (min N.size 300)) (S.extract 0 (min S.size 300)) (B.extract 0 (min B.size 300)) f ((l.take 8).map (·.take 80)) a b c d e).groups = (l.take 8).map (·.take 80) := rfl
  generalize inS (N.extract 0 (min N.size 300)) (S.extract 0 (min S.size 300)) (B.extract 0 (min B.size 300)) f ((l.take 8).map (·.take 80)) a b c d e = x at *
  have HB0 := Lib.hid (alloc_bel w (.cells IC 26))
  have HX0 := Lib.hid (show (w.alloc (.cells IC 26)).heap[w.heap.size]? = some (.cells IC 26 (0, 0)) from in_new w IC)
  have HKN := Lib.hid (fun wx (hx : Below w.heap.size w wx) => law_known wx (shaped_below hsh hx) (ht.below hx))
  have HSZ := Lib.hid hsz
  have H1 := Lib.hid (fun wx (hx : Below w.heap.size w wx) => pa_ok (shaped_below hsh hx) hp)
  have H2 := Lib.hid (fun wx (hx : Below w.heap.size w wx) => pa_ok (shaped_below hsh hx) hq)
  have hm' : ((la.length : Int) != 1) = false := by rw [hm]; rfl
  have hn' : ((lb.length : Int) != 1) = false := by rw [hn]; rfl
  have HRT := Lib.hid (fun (rp : Nat) (ll : List RuleS) (A2 : Option Addr) (c2 : Nat) (wx : World) (hll : ll.length = 1) (hx : Below w.heap.size w wx) (hr : RulesIn wx rp ll) (hg : Row wx A2 (strsL x.groups)) => show Calls Tryz.prog 17 #[.pointer (some ⟨rp, 0, none⟩), .agg (RF A2 c2).toArray] wx (fun e' w' => e' = .returned (.agg #[.int .i64 (rateF ll x).score, .bool (rateF ll x).killed, .bool (rateF ll x).watched, .int .i64 (rateF ll x).applied]) ∧ Below wx.heap.size wx w') from
    sc_rate (hIV A2 c2) (shaped_below hsh hx) hg hr (by omega))
  have HW := Lib.hid (show ((rateF la x).watched != (rateF lb x).watched) = true from by rw [hw x]; cases (rateF lb x).watched <;> rfl)
  have HXG := Lib.hid hxg
  have HM := Lib.hid hm
  have HN := Lib.hid hn
  have HRS := Lib.hid hrs
  have HST := Lib.hid hst
  rw [hIC]
  clear hsh ht hsc hsz hp hq hm hn hw hin hIC hRF hRF2 hIV hxg hrs hst
  go_enter Tryz.func5, Tryz.ntmps5
  go_upto_region 1 with fail
  generalize w.alloc (.cells IC 26) = W0 at *
  go_upto_region 6 with (first
    | (go_at_call 12; (with_reducible refine (HSC.out _).mono ?_); rintro e' w' ⟨rfl, rfl⟩)
    | (go_at_call 11; (with_reducible refine (H1.out _ HB0.out).mono ?_); rintro e' w1 ⟨ra, rfl, hr1, hb1⟩; have HRA := Lib.hid hr1; have HX := Lib.hid ((hb1.block _ (heap_lt HX0.out)).trans HX0.out); have HB1 := Lib.hid (HB0.out.trans (hb1.mono HB0.out.size)); clear hb1 hr1)
    | (go_at_call 11; (with_reducible refine (H2.out _ HB1.out).mono ?_); rintro e' w2 ⟨rb, rfl, hr2, hb2⟩; have HRA := Lib.hid (HRA.out.below hb2); have HRB := Lib.hid hr2; have HX := Lib.hid ((hb2.block _ (heap_lt HX.out)).trans HX.out); have HB := Lib.hid (HB1.out.trans (hb2.mono HB1.out.size)); clear hb2 hr2)
    | (go_at_call 13; (with_reducible refine (HKN.out _ HB.out).mono ?_); rintro e' w5 ⟨rfl, hb5⟩; have HB := Lib.hid (HB.out.trans (hb5.mono HB.out.size)); have HRA := Lib.hid (HRA.out.below hb5); have HRB := Lib.hid (HRB.out.below hb5); have HX := Lib.hid ((hb5.block _ (heap_lt HX.out)).trans HX.out); clear hb5)
    | (go_at_call 20; (with_reducible refine (sc_len HRA.out).mono ?_); rintro e' w6 ⟨rfl, rfl⟩)
    | (go_at_call 20; (with_reducible refine (sc_len HRB.out).mono ?_); rintro e' w6 ⟨rfl, rfl⟩))
  have oe := in_of (in_load HX.out HSZ.out)
  have oo := oe.1
  have ee := oe.2
  clear oe hm' hn'
  go_upto_region 7 with (first
    | (go_at_call 15; (with_reducible refine (HTO.out _ HB.out).mono ?_); rintro e' w7 ⟨A2, c2, rfl, hg7, hb7⟩; have HG := Lib.hid hg7; have HB := Lib.hid (HB.out.trans (hb7.mono HB.out.size)); have HRA := Lib.hid (HRA.out.below hb7); have HRB := Lib.hid (HRB.out.below hb7); clear hb7 hg7)
    | (go_at_call 14; (with_reducible refine (HBK.out _ _ _).mono ?_); rintro e' w8 ⟨rfl, hb8⟩; have HG := Lib.hid (HG.out.below hb8); have HB := Lib.hid (HB.out.trans (hb8.mono HB.out.size)); have HRA := Lib.hid (HRA.out.below hb8); have HRB := Lib.hid (HRB.out.below hb8); have hst := HST.out A2 c2 w8; have hrs := HRS.out A2 c2; clear hb8))
  have HB9 := Lib.hid (alloc_bel w8 (.cells (RF A2 c2).toArray 26))
  have HX9 := Lib.hid (heap_alloc_new w8 (.cells (RF A2 c2).toArray 26))
  have HBW := Lib.hid (HB.out.trans (HB9.out.mono HB.out.size))
  have HRA9 := Lib.hid (HRA.out.below HB9.out)
  have HRB9 := Lib.hid (HRB.out.below HB9.out)
  have HG9 := Lib.hid (show Row (w8.alloc (.cells (RF A2 c2).toArray 26)) A2 (strsL x.groups) from by rw [HXG.out]; exact HG.out.below HB9.out)
  have RTA := Lib.hid (fun (wx : World) (hx : RtP (w8.alloc (.cells (RF A2 c2).toArray 26)) w8.heap.size (RF A2 c2) wx) => HRT.out ra la A2 c2 wx HM.out (HBW.out.trans (hx.2.mono HBW.out.size)) (HRA9.out.below hx.2) (HG9.out.below hx.2))
  have RTB := Lib.hid (fun (wx : World) (hx : RtP (w8.alloc (.cells (RF A2 c2).toArray 26)) w8.heap.size (RF A2 c2) wx) => HRT.out rb lb A2 c2 wx HN.out (HBW.out.trans (hx.2.mono HBW.out.size)) (HRB9.out.below hx.2) (HG9.out.below hx.2))
  have hsi : (Tryz.prog.info? 26).map (·.size) = some (RF A2 c2).length := by rw [HRS.out]; exact size_In
  have hty := Tryz.underlying26
  have hz := heap_lt HX9.out
  have HK := Lib.hid (show RtP (w8.alloc (.cells (RF A2 c2).toArray 26)) w8.heap.size (RF A2 c2) (w8.alloc (.cells (RF A2 c2).toArray 26)).drew from ⟨fun j v hv => by
    rw [Nat.zero_add, Lib.cell_of_heap (w := (w8.alloc (.cells (RF A2 c2).toArray 26)).drew) HX9.out]; simpa using hv, (Below.refl _ _).drew⟩)
  clear hst hrs oo ee HG HRA HRB HRA9 HRB9 HG9 HB9 HX9 HX HTO HBK HST HRS HB1 HKN HRT H1 H2 HB HXG HM HN HX0 HB0
  generalize RF A2 c2 = L at *
  generalize w8.alloc (.cells L.toArray 26) = W9 at *
  generalize w8.heap.size = px at *
  have hOI : ∀ wx : World, wx.rangeAt px 0 L → OkIn wx (.pointer (some ⟨px, 0, none⟩)) ∧ inOf wx (.pointer (some ⟨px, 0, none⟩)) = .agg L.toArray := fun wx h => in_of (range_loadS (T := 26) h hty rfl hsi)
  have hOA := fun (wx : World) (h : wx.rangeAt px 0 L) => (hOI wx h).1
  have hOB := fun (wx : World) (h : wx.rangeAt px 0 L) => (hOI wx h).2
  clear hOI
  obtain ⟨oa, hoa⟩ : ∃ o, rateF la x = o := ⟨_, rfl⟩
  obtain ⟨ob, hob⟩ : ∃ o, rateF lb x = o := ⟨_, rfl⟩
  rw [hoa] at RTA HW
  rw [hob] at RTB HW
  clear hoa hob
  obtain ⟨s1, k1, w1, p1⟩ := oa
  obtain ⟨s2, k2, w2', p2⟩ := ob
  simp only at RTA RTB HW
  go_region_held3 (fun w' => w'.rangeAt px 0 L ∧ Below W9.heap.size W9 w')
    (first | exact HK.out | exact RtP.later (by assumption) hb9 hz)
    (first
      | ((go_at_call 17; (with_reducible refine (RTA.out _ ?hh).mono ?_); (case hh => assumption); rintro e' w9 ⟨rfl, hb9⟩))
      | ((go_at_call 17; (with_reducible refine (RTB.out _ ?hh).mono ?_); (case hh => assumption); rintro e' w9 ⟨rfl, hb9⟩)))
  rename_i hS
  go_wp2_with fail
  go_ret
  exact ⟨ret_bool HW.out, HBW.out.trans (hS.2.mono HBW.out.size)⟩
end Go.Proofs.YtannhfnpigiggaaGreatDoor
