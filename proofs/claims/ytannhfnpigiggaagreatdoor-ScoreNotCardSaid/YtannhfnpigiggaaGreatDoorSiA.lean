/- ScoreNot where one of both texts holds no single rule. -/
import Derived.Test.YtannhfnpigiggaaGreatDoorShZ
import Derived.Test.YtannhfnpigiggaaGreatDoorSdN
namespace Go.Proofs.YtannhfnpigiggaaGreatDoor
set_option linter.unusedSimpArgs false
set_option linter.unusedVariables false
open Go.ChangeShapes Go.WideShapes Go.ChangeAt Go.RowKit
open Go.ChangeMaps (open_string shut_string)
attribute [local go_sem ↓] wp_load_in fld_res2

set_option maxHeartbeats 16000000 in
set_option maxRecDepth 100000 in
theorem not_badA {c0 C : ByteArray} {IC : Array Value} {w : World} (hsz : IC.size = 25) (hsc : ∀ wx, Calls Tryz.prog 12 #[.string c0, .int .i64 500] wx fun e w' => e = .returned (.string C) ∧ wx = w') (hC : C.size ≤ 500) (hsh : w.ShapedOpen Tryz.prog) (ht : TabN w) {i j : Nat} {er : Int} (hne : er ≠ 0) (hp : parseG (toL ((⟨#[119, 97, 116, 99, 104, 32, 105, 102, 32]⟩ : ByteArray) ++ C)) = .error (i, j, er)) :
    Calls Tryz.prog 5 #[.string c0, .agg IC] w fun e w' => e = .returned (.bool true) ∧ Below w.heap.size w w' := by
  have HSC := Lib.hid hsc
  have HB0 := Lib.hid (alloc_bel w (.cells IC 26))
  have HX0 := Lib.hid (show (w.alloc (.cells IC 26)).heap[w.heap.size]? = some (.cells IC 26 (0, 0)) from in_new w IC)
  have HKN := Lib.hid (fun wx (hx : Below w.heap.size w wx) => law_known wx (shaped_below hsh hx) (ht.below hx))
  have HSZ := Lib.hid hsz
  have H1 := Lib.hid (fun wx (hx : Below w.heap.size w wx) => pa_err (shaped_below hsh hx) hp)
  have H2 := Lib.hid (fun wx (hx : Below w.heap.size w wx) => pa_any (((⟨#[119, 97, 116, 99, 104, 32, 105, 102, 32, 110, 111, 116, 32, 40]⟩ : ByteArray) ++ C) ++ ⟨#[41]⟩) wx (shaped_below hsh hx))
  have hne' : (er != 0) = true := bne_iff_ne.2 hne
  clear hp hne
  clear hsh ht hsc hsz
  go_enter Tryz.func5, Tryz.ntmps5
  go_upto_region 1 with fail
  generalize w.alloc (.cells IC 26) = W0 at *
  go_wp2_with (first
    | (go_at_call 12; (with_reducible refine (HSC.out _).mono ?_); rintro e w' ⟨rfl, rfl⟩)
    | (go_at_call 11; (with_reducible refine (H1.out _ HB0.out).mono ?_); rintro e w1 ⟨rfl, hb1⟩; have HB1 := Lib.hid (HB0.out.trans (hb1.mono HB0.out.size)); clear hb1)
    | (go_at_call 11; (with_reducible refine (H2.out _ HB1.out).mono ?_); rintro e w2 ⟨p2, i2, j2, k2, rfl, hb2⟩; have HB := Lib.hid (HB1.out.trans (hb2.mono HB1.out.size)); clear hb2)
    | (go_at_call 13; (with_reducible refine (HKN.out _ HB.out).mono ?_); rintro e w5 ⟨rfl, hb5⟩; have HB := Lib.hid (HB.out.trans (hb5.mono HB.out.size)); clear hb5))
  go_ret
  exact ⟨rfl, HB.out⟩
set_option maxHeartbeats 16000000 in
set_option maxRecDepth 100000 in
theorem not_badB {c0 C : ByteArray} {IC : Array Value} {w : World} (hsz : IC.size = 25) (hsc : ∀ wx, Calls Tryz.prog 12 #[.string c0, .int .i64 500] wx fun e w' => e = .returned (.string C) ∧ wx = w') (hC : C.size ≤ 500) (hsh : w.ShapedOpen Tryz.prog) (ht : TabN w) {la : List RuleS} {i j : Nat} {er : Int} (hne : er ≠ 0) (hp : parseG (toL ((⟨#[119, 97, 116, 99, 104, 32, 105, 102, 32]⟩ : ByteArray) ++ C)) = .ok la) (hq : parseG (toL (((⟨#[119, 97, 116, 99, 104, 32, 105, 102, 32, 110, 111, 116, 32, 40]⟩ : ByteArray) ++ C) ++ ⟨#[41]⟩)) = .error (i, j, er)) :
    Calls Tryz.prog 5 #[.string c0, .agg IC] w fun e w' => e = .returned (.bool true) ∧ Below w.heap.size w w' := by
  have HSC := Lib.hid hsc
  have HB0 := Lib.hid (alloc_bel w (.cells IC 26))
  have HX0 := Lib.hid (show (w.alloc (.cells IC 26)).heap[w.heap.size]? = some (.cells IC 26 (0, 0)) from in_new w IC)
  have HKN := Lib.hid (fun wx (hx : Below w.heap.size w wx) => law_known wx (shaped_below hsh hx) (ht.below hx))
  have HSZ := Lib.hid hsz
  have H1 := Lib.hid (fun wx (hx : Below w.heap.size w wx) => pa_ok (shaped_below hsh hx) hp)
  have H2 := Lib.hid (fun wx (hx : Below w.heap.size w wx) => pa_err (shaped_below hsh hx) hq)
  have hne' : (er != 0) = true := bne_iff_ne.2 hne
  clear hp hne hq
  clear hsh ht hsc hsz
  go_enter Tryz.func5, Tryz.ntmps5
  go_upto_region 1 with fail
  generalize w.alloc (.cells IC 26) = W0 at *
  go_wp2_with (first
    | (go_at_call 12; (with_reducible refine (HSC.out _).mono ?_); rintro e w' ⟨rfl, rfl⟩)
    | (go_at_call 11; (with_reducible refine (H1.out _ HB0.out).mono ?_); rintro e w1 ⟨ra, rfl, hr1, hb1⟩; have HRA := Lib.hid hr1; have HB1 := Lib.hid (HB0.out.trans (hb1.mono HB0.out.size)); clear hb1 hr1)
    | (go_at_call 11; (with_reducible refine (H2.out _ HB1.out).mono ?_); rintro e w2 ⟨rfl, hb2⟩; have HRA := Lib.hid (HRA.out.below hb2); have HB := Lib.hid (HB1.out.trans (hb2.mono HB1.out.size)); clear hb2)
    | (go_at_call 13; (with_reducible refine (HKN.out _ HB.out).mono ?_); rintro e w5 ⟨rfl, hb5⟩; have HB := Lib.hid (HB.out.trans (hb5.mono HB.out.size)); clear hb5))
  go_ret
  exact ⟨rfl, HB.out⟩
set_option maxHeartbeats 16000000 in
set_option maxRecDepth 100000 in
theorem not_badC {c0 C : ByteArray} {IC : Array Value} {w : World} (hsz : IC.size = 25) (hsc : ∀ wx, Calls Tryz.prog 12 #[.string c0, .int .i64 500] wx fun e w' => e = .returned (.string C) ∧ wx = w') (hC : C.size ≤ 500) (hsh : w.ShapedOpen Tryz.prog) (ht : TabN w) {la lb : List RuleS} (hn : la.length ≠ 1) (hp : parseG (toL ((⟨#[119, 97, 116, 99, 104, 32, 105, 102, 32]⟩ : ByteArray) ++ C)) = .ok la) (hq : parseG (toL (((⟨#[119, 97, 116, 99, 104, 32, 105, 102, 32, 110, 111, 116, 32, 40]⟩ : ByteArray) ++ C) ++ ⟨#[41]⟩)) = .ok lb) :
    Calls Tryz.prog 5 #[.string c0, .agg IC] w fun e w' => e = .returned (.bool true) ∧ Below w.heap.size w w' := by
  have HSC := Lib.hid hsc
  have HB0 := Lib.hid (alloc_bel w (.cells IC 26))
  have HX0 := Lib.hid (show (w.alloc (.cells IC 26)).heap[w.heap.size]? = some (.cells IC 26 (0, 0)) from in_new w IC)
  have HKN := Lib.hid (fun wx (hx : Below w.heap.size w wx) => law_known wx (shaped_below hsh hx) (ht.below hx))
  have HSZ := Lib.hid hsz
  have H1 := Lib.hid (fun wx (hx : Below w.heap.size w wx) => pa_ok (shaped_below hsh hx) hp)
  have H2 := Lib.hid (fun wx (hx : Below w.heap.size w wx) => pa_ok (shaped_below hsh hx) hq)
  have hn' : ((la.length : Int) != 1) = true := bne_iff_ne.2 (by omega)
  clear hp hn hq
  clear hsh ht hsc hsz
  go_enter Tryz.func5, Tryz.ntmps5
  go_upto_region 1 with fail
  generalize w.alloc (.cells IC 26) = W0 at *
  go_wp2_with (first
    | (go_at_call 12; (with_reducible refine (HSC.out _).mono ?_); rintro e w' ⟨rfl, rfl⟩)
    | (go_at_call 11; (with_reducible refine (H1.out _ HB0.out).mono ?_); rintro e w1 ⟨ra, rfl, hr1, hb1⟩; have HRA := Lib.hid hr1; have HB1 := Lib.hid (HB0.out.trans (hb1.mono HB0.out.size)); clear hb1 hr1)
    | (go_at_call 11; (with_reducible refine (H2.out _ HB1.out).mono ?_); rintro e w2 ⟨rb, rfl, hr2, hb2⟩; have HRA := Lib.hid (HRA.out.below hb2); have HRB := Lib.hid hr2; have HB := Lib.hid (HB1.out.trans (hb2.mono HB1.out.size)); clear hb2 hr2)
    | (go_at_call 13; (with_reducible refine (HKN.out _ HB.out).mono ?_); rintro e w5 ⟨rfl, hb5⟩; have HB := Lib.hid (HB.out.trans (hb5.mono HB.out.size)); have HRA := Lib.hid (HRA.out.below hb5); have HRB := Lib.hid (HRB.out.below hb5); clear hb5)
    | (go_at_call 20; (with_reducible refine (sc_len HRA.out).mono ?_); rintro e w6 ⟨rfl, rfl⟩)
    | (go_at_call 20; (with_reducible refine (sc_len HRB.out).mono ?_); rintro e w6 ⟨rfl, rfl⟩)
    | (go_at_call 13; (with_reducible refine (HKN.out _ HB.out).mono ?_); rintro e w5 ⟨rfl, hb5⟩; have HB := Lib.hid (HB.out.trans (hb5.mono HB.out.size)); clear hb5))
  go_ret
  exact ⟨rfl, HB.out⟩
set_option maxHeartbeats 16000000 in
set_option maxRecDepth 100000 in
theorem not_badD {c0 C : ByteArray} {IC : Array Value} {w : World} (hsz : IC.size = 25) (hsc : ∀ wx, Calls Tryz.prog 12 #[.string c0, .int .i64 500] wx fun e w' => e = .returned (.string C) ∧ wx = w') (hC : C.size ≤ 500) (hsh : w.ShapedOpen Tryz.prog) (ht : TabN w) {la lb : List RuleS} (hm : la.length = 1) (hn : lb.length ≠ 1) (hp : parseG (toL ((⟨#[119, 97, 116, 99, 104, 32, 105, 102, 32]⟩ : ByteArray) ++ C)) = .ok la) (hq : parseG (toL (((⟨#[119, 97, 116, 99, 104, 32, 105, 102, 32, 110, 111, 116, 32, 40]⟩ : ByteArray) ++ C) ++ ⟨#[41]⟩)) = .ok lb) :
    Calls Tryz.prog 5 #[.string c0, .agg IC] w fun e w' => e = .returned (.bool true) ∧ Below w.heap.size w w' := by
  have HSC := Lib.hid hsc
  have HB0 := Lib.hid (alloc_bel w (.cells IC 26))
  have HX0 := Lib.hid (show (w.alloc (.cells IC 26)).heap[w.heap.size]? = some (.cells IC 26 (0, 0)) from in_new w IC)
  have HKN := Lib.hid (fun wx (hx : Below w.heap.size w wx) => law_known wx (shaped_below hsh hx) (ht.below hx))
  have HSZ := Lib.hid hsz
  have H1 := Lib.hid (fun wx (hx : Below w.heap.size w wx) => pa_ok (shaped_below hsh hx) hp)
  have H2 := Lib.hid (fun wx (hx : Below w.heap.size w wx) => pa_ok (shaped_below hsh hx) hq)
  have hm' : ((la.length : Int) != 1) = false := by rw [hm]; rfl
  have hn' : ((lb.length : Int) != 1) = true := bne_iff_ne.2 (by omega)
  clear hp hn hq hm
  clear hsh ht hsc hsz
  go_enter Tryz.func5, Tryz.ntmps5
  go_upto_region 1 with fail
  generalize w.alloc (.cells IC 26) = W0 at *
  go_wp2_with (first
    | (go_at_call 12; (with_reducible refine (HSC.out _).mono ?_); rintro e w' ⟨rfl, rfl⟩)
    | (go_at_call 11; (with_reducible refine (H1.out _ HB0.out).mono ?_); rintro e w1 ⟨ra, rfl, hr1, hb1⟩; have HRA := Lib.hid hr1; have HB1 := Lib.hid (HB0.out.trans (hb1.mono HB0.out.size)); clear hb1 hr1)
    | (go_at_call 11; (with_reducible refine (H2.out _ HB1.out).mono ?_); rintro e w2 ⟨rb, rfl, hr2, hb2⟩; have HRA := Lib.hid (HRA.out.below hb2); have HRB := Lib.hid hr2; have HB := Lib.hid (HB1.out.trans (hb2.mono HB1.out.size)); clear hb2 hr2)
    | (go_at_call 13; (with_reducible refine (HKN.out _ HB.out).mono ?_); rintro e w5 ⟨rfl, hb5⟩; have HB := Lib.hid (HB.out.trans (hb5.mono HB.out.size)); have HRA := Lib.hid (HRA.out.below hb5); have HRB := Lib.hid (HRB.out.below hb5); clear hb5)
    | (go_at_call 20; (with_reducible refine (sc_len HRA.out).mono ?_); rintro e w6 ⟨rfl, rfl⟩)
    | (go_at_call 20; (with_reducible refine (sc_len HRB.out).mono ?_); rintro e w6 ⟨rfl, rfl⟩)
    | (go_at_call 13; (with_reducible refine (HKN.out _ HB.out).mono ?_); rintro e w5 ⟨rfl, hb5⟩; have HB := Lib.hid (HB.out.trans (hb5.mono HB.out.size)); clear hb5))
  go_ret
  exact ⟨rfl, HB.out⟩
end Go.Proofs.YtannhfnpigiggaaGreatDoor
