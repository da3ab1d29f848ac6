/- For every article and number, ScoreNil returns true: nil rules return ErrArgument or zero values from all functions. The library's listed tables lie as the card ties them; no other condition. -/
import Derived.Test.YtannhfnpigiggaaGreatDoorPs40
import Derived.Test.YtannhfnpigiggaaGreatDoorPs42
namespace Go.Proofs.YtannhfnpigiggaaGreatDoor
set_option linter.unusedSimpArgs false
set_option linter.unusedVariables false
open Go.ChangeShapes Go.WideShapes Go.ChangeAt Go.RowKit
open Go.ChangeMaps (open_string shut_string)
attribute [local go_sem ↓] wp_load_in

theorem cells_In : Tryz.prog.cellsOf 26 = 25 := by kernel_rfl
theorem pa_empty : parseG (toL ⟨#[]⟩) = .ok [] := by kernel_rfl
set_option maxHeartbeats 16000000 in
set_option maxRecDepth 100000 in
theorem ScoreNil_walk (IC : Array Value) (hsz : IC.size = Tryz.prog.cellsOf 26) (n : Int) (hn : (Lit.int .i64 n).wf = true) (w : World) (hsh : w.ShapedOpen Tryz.prog) (ht : TabN w) :
    Calls Tryz.prog 9 #[.agg IC, .int .i64 n] w fun e w' => e = .returned (.bool true) ∧ Below w.heap.size w w' := by
  rw [cells_In] at hsz
  have HSZ := Lib.hid hsz
  have HB0 := Lib.hid (alloc_bel w (.cells IC 26))
  have HX0 := Lib.hid (show (w.alloc (.cells IC 26)).heap[w.heap.size]? = some (.cells IC 26 (0, 0)) from in_new w IC)
  have H1 := Lib.hid (fun wx (hx : Below w.heap.size w wx) => pa_ok (s := ⟨#[]⟩) (shaped_below hsh hx) pa_empty)
  have HPR := Lib.hid (fun wx rb (hx : Below w.heap.size w wx) (hr : RulesIn wx rb []) => show Calls Tryz.prog 18 #[.pointer (some ⟨rb, 0, none⟩)] wx (fun e w' => e = .returned (.string ⟨#[]⟩) ∧ Below wx.heap.size wx w') from sc_print (l := []) (shaped_below hsh hx) (ht.below hx) hr (by decide) (by decide))
  have HLN := Lib.hid (fun wx rb (hr : RulesIn wx rb []) => show Calls Tryz.prog 20 #[.pointer (some ⟨rb, 0, none⟩)] wx (fun e w' => e = .returned (.int .i64 0) ∧ wx = w') from sc_len hr)
  have HEQ := Lib.hid (fun wx rb (hx : Below w.heap.size w wx) (hr : RulesIn wx rb []) => show Calls Tryz.prog 19 #[.pointer (some ⟨rb, 0, none⟩), .pointer (some ⟨rb, 0, none⟩)] wx (fun e w' => e = .returned (.bool true) ∧ Below wx.heap.size wx w') from by
    have h := sc_equal (shaped_below hsh hx) (ht.below hx) hr hr (by decide) (by decide) (by decide) (by decide)
    rw [decide_eq_true rfl] at h
    exact h)
  have HKN := Lib.hid (fun wx (hx : Below w.heap.size w wx) => law_known wx (shaped_below hsh hx) (ht.below hx))
  have HRT := Lib.hid (fun wx => show Calls Tryz.prog 17 #[.pointer none, .agg IC] wx (fun e w' => e = .returned (.agg #[.int .i64 0, .bool false, .bool false, .int .i64 0]) ∧ Below wx.heap.size wx w') from sc_rate_nil IC wx)
  have hq : ∀ wx, (Op.equalIn 10000 39 (.agg #[.int .i64 0, .bool false, .bool false, .int .i64 0]) (.agg #[.int .i64 0, .bool false, .bool false, .int .i64 0])).run Tryz.prog wx = .ok true wx := fun wx => by kernel_rfl
  have hg := Tryz.eqGuardType39
  clear hsz hsh ht hn
  go_enter Tryz.func9, Tryz.ntmps9
  go_upto_region 1 with fail
  generalize w.alloc (.cells IC 26) = W0 at *
  obtain ⟨o0, e0⟩ := in_of (in_load HX0.out HSZ.out)
  have hz0 := heap_lt HX0.out
  go_wp2_with (first
    | (go_at_call 11; (with_reducible refine (H1.out _ HB0.out).mono ?_); rintro e w1 ⟨rb, rfl, hr1, hb1⟩; have HR := Lib.hid hr1; have HB := Lib.hid (HB0.out.trans (hb1.mono HB0.out.size)); have HX := Lib.hid ((hb1.block _ (heap_lt HX0.out)).trans HX0.out); have oe := in_of (in_load HX.out HSZ.out); have oo := oe.1; have ee := oe.2; clear hb1 hr1 oe)
    | (go_at_call 22; (with_reducible refine (ni_applies _ _ _).mono ?_); rintro e w2 ⟨rfl, hb2⟩; have HR := Lib.hid (HR.out.below hb2); have HB := Lib.hid (HB.out.trans (hb2.mono HB.out.size)); have HX := Lib.hid ((hb2.block _ (heap_lt HX.out)).trans HX.out); clear hb2)
    | (go_at_call 26; (with_reducible refine (ni_append1 _ _).mono ?_); rintro e w3 ⟨rfl, rfl⟩)
    | (go_at_call 26; (with_reducible refine (ni_append2 _ _).mono ?_); rintro e w4 ⟨rfl, rfl⟩)
    | (go_at_call 13; (with_reducible refine (HKN.out _ HB.out).mono ?_); rintro e w5 ⟨rfl, hb5⟩; have HR := Lib.hid (HR.out.below hb5); have HB := Lib.hid (HB.out.trans (hb5.mono HB.out.size)); have HX := Lib.hid ((hb5.block _ (heap_lt HX.out)).trans HX.out); clear hb5)
    | (go_at_call 20; (with_reducible refine (HLN.out _ _ HR.out).mono ?_); rintro e w6 ⟨rfl, rfl⟩)
    | (go_at_call 20; (with_reducible refine (sc_len_nil _).mono ?_); rintro e w6 ⟨rfl, rfl⟩)
    | (go_at_call 18; (with_reducible refine (HPR.out _ _ HB.out HR.out).mono ?_); rintro e w7 ⟨rfl, hb7⟩; have HR := Lib.hid (HR.out.below hb7); have HB := Lib.hid (HB.out.trans (hb7.mono HB.out.size)); have HX := Lib.hid ((hb7.block _ (heap_lt HX.out)).trans HX.out); have oe := in_of (in_load HX.out HSZ.out); have oo := oe.1; have ee := oe.2; clear hb7 oe)
    | (go_at_call 18; (with_reducible refine (sc_print_nil _).mono ?_); rintro e w6 ⟨rfl, rfl⟩)
    | (go_at_call 17; (with_reducible refine (HRT.out _).mono ?_); rintro e w8 ⟨rfl, hb8⟩; have HR := Lib.hid (HR.out.below hb8); have HB := Lib.hid (HB.out.trans (hb8.mono HB.out.size)); clear hb8)
    | (go_at_call 27; (with_reducible refine (ni_expired _ _).mono ?_); rintro e w6 ⟨rfl, rfl⟩)
    | (go_at_call 19; (with_reducible refine (ni_eq0 _).mono ?_); rintro e w6 ⟨rfl, rfl⟩)
    | (go_at_call 19; (with_reducible refine (ni_eq1 _ _).mono ?_); rintro e w6 ⟨rfl, rfl⟩)
    | (go_at_call 19; (with_reducible refine (ni_eq2 _ _).mono ?_); rintro e w6 ⟨rfl, rfl⟩)
    | (go_at_call 19; (with_reducible refine (HEQ.out _ _ HB.out HR.out).mono ?_); rintro e w9 ⟨rfl, hb9⟩; have HB := Lib.hid (HB.out.trans (hb9.mono HB.out.size)); clear hb9))
  go_ret
  exact ⟨rfl, HB.out⟩
set_option maxRecDepth 100000 in
theorem ScoreNil_contract (H : Type) (enc : TypeId × Value → H) (W : World) (base : Nat) (args : Array Value) (ds gs : List (DataW H)) (before : List MemPlace)
    (hval0 : ∀ (j : Nat) t v, Tryz.f9.params[j]? = some t → args[j]? = some v → Value.okWide Tryz.prog W .any base t v)
    (hW : DataW.Whole enc Tryz.prog Tryz.f9.params.toList Rows.scoreNilSpec.vars false W args.toList ds gs before) (hsh : W.ShapedOpen Tryz.prog) (htab : TabN W) :
    Calls Tryz.prog 9 args W fun e W' => ∃ v, e = .returned v ∧ Rows.scoreNilSpec.post enc Tryz.prog Tryz.f9 false true false false W args v W' := by
  have hval : ∀ (j : Nat) t v, Tryz.f9.params[j]? = some t → args[j]? = some v → Value.okWide Tryz.prog W .any base t v := hval0
  have hW' := hW
  obtain ⟨p, q, hA0, hV, rfl, hfz, hnd⟩ := hW
  have hA : DataW.TrodAll enc Tryz.prog W 0 (fun _ => true) true Tryz.f9.params.toList args.toList ds p := hA0
  rw [Tryz.params9] at hA hval
  obtain ⟨v0, vs0, d0, ds0, p0, q0, hargs, rfl, rfl, h0, r0⟩ := trodAll_cons hA
  obtain ⟨v1, vs1, d1, ds1, p1, q1, rfl, rfl, rfl, h1, r1⟩ := trodAll_cons r0
  obtain ⟨rfl, rfl, rfl⟩ := trodAll_nil r1
  obtain rfl : args = #[v0, v1] := by cases args; simp_all
  obtain ⟨rfl, rfl⟩ := trodVars_none hV
  obtain ⟨cs0, rfl, hsz0⟩ := okWide_struct Tryz.underlying26 (hval 0 26 v0 rfl rfl)
  obtain ⟨a1, rfl, rfl, rfl, w1⟩ := open_int Tryz.underlying3 (hval 1 3 v1 rfl rfl) h1
  refine (ScoreNil_walk cs0 hsz0 a1 w1 W hsh htab).mono fun e W' ⟨he, hg⟩ => ?_
  subst he
  exact ⟨_, rfl, law_post hW' rfl rfl rfl (by decide +kernel) hg⟩

theorem ScoreNil_reads (os : Os) {H : Type} (enc : TypeId × Value → H) : ∃ places, DataW.whole enc Tryz.prog ((laidWorld os).forCall (fun _ _ => 0) ⟨#[], #[witX, .int .i64 0], []⟩).memory Tryz.f9.params.toList Rows.scoreNilSpec.vars false ((#[witX, .int .i64 0] : Array Value)).toList 8 = some ([datX, .lit (.int .i64 0)], [], places) :=
  ⟨[], by kernel_rfl⟩

set_option maxRecDepth 100000 in
theorem ScoreNil_lifted (os : Os) (started : os.Started) (H : Type) (enc : TypeId × Value → H) (F : Stop.Interp) :
    ReturnsInHanded {} Tryz.checked os 9 .any ((OpenSpec.ofChange Rows.scoreNilSpec).preRow enc Tryz.prog Tryz.f9 Rows.scoreNilRow.domain false Rows.scoreNilRow.laid) (((OpenSpec.ofChange Rows.scoreNilSpec).at F).post enc Tryz.prog Tryz.f9 false true false false) := by
  obtain ⟨places, hx⟩ := ScoreNil_reads os enc
  refine returnsInHanded_of_row (C := Tryz.checked) (s := OpenSpec.ofChange Rows.scoreNilSpec) own started (by kernel_rfl) Tryz.func9
    (witness_row_at (enc := enc) (C := Tryz.checked) false (laidWorld os) #[witX, .int .i64 0] rfl (by kernel_rfl) (by kernel_rfl) (by kernel_rfl)
      (OpenSpec.preRow_of_cond 8 hx (by kernel_rfl) (fun k hk => by cases hk) (by kernel_rfl) (laid_met os #[witX, .int .i64 0]))) ?_
  intro W base args ds gs before hval hW _ _ _ hL hsh _
  exact ScoreNil_contract H enc W base args ds gs before hval hW hsh (tabN_of_laid hL)

theorem ScoreNil_said : Rows.ScoreNilSaid :=
  OpenClaim.holds_of_cond 9 Tryz.f9 rfl rfl rfl rfl rfl rfl rfl ⟨rfl, rfl, rfl, rfl, rfl⟩ rfl rfl rfl rfl rfl (by kernel_rfl) Tryz.func9 (by kernel_rfl)
    (of_decide_eq_true (by kernel_rfl)) (by unfold Func.isWrapper; first | (rw [if_pos (by decide +kernel)]; kernel_rfl) | (rw [if_neg (by decide +kernel)]; exact ⟨rfl, rfl⟩))
    (fun os started H enc _ F => by rw [OpenClaim.pre_eq_preRow]; exact ScoreNil_lifted os started H enc F)

theorem ScoreNil_plain (f : FuncId) (fn : Func) (hf : Tryz.pinned.checked.prog.funcNamed Rows.scoreNilRow.func = some f) (hfn : Tryz.pinned.checked.prog.funcs[f]? = some fn) :
    true = Tryz.pinned.checked.prog.looks [] ∧ ∀ (j : Nat) t, fn.params[j]? = some t → Tryz.pinned.checked.prog.wantsStandIn t = false := by
  obtain rfl : f = 9 := Option.some.inj ((show Tryz.prog.funcNamed Rows.scoreNilRow.func = some 9 by kernel_rfl).symm.trans hf) |>.symm
  obtain rfl : fn = Tryz.f9 := (Option.some.inj (Tryz.func9.symm.trans hfn)).symm
  refine ⟨by kernel_rfl, fun j t ht => ?_⟩
  rw [Tryz.params9] at ht
  have hm := Array.mem_of_getElem? ht
  simp only [List.mem_toArray, List.mem_cons, List.not_mem_nil, or_false] at hm
  rcases hm with rfl | rfl
  · exact (show Tryz.prog.wantsStandIn 26 = false by kernel_rfl)
  · exact (show Tryz.prog.wantsStandIn 3 = false by kernel_rfl)

theorem ScoreNil_proved : Rows.ScoreNilCardSaid :=
  Claim7.holds_tied_plain_at .later [] _ _ _ _ ScoreNil_said (fun _ h => by cases h) (by kernel_rfl) (fun _ h => by cases h) scoreNil_row_tie rfl ⟨rfl, rfl⟩ (by kernel_rfl) rfl ScoreNil_plain (by kernel_rfl)
end Go.Proofs.YtannhfnpigiggaaGreatDoor
