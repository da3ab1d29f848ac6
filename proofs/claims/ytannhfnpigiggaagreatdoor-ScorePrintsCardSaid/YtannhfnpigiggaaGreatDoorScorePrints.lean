/- For every text, ScorePrints returns true: what Parse accepts is printed, read again, equal and printed unchanged. The library's listed tables lie as the card ties them; no other condition. -/
import Derived.Test.YtannhfnpigiggaaGreatDoorPs45
import Derived.Test.YtannhfnpigiggaaGreatDoorPs44
namespace Go.Proofs.YtannhfnpigiggaaGreatDoor
set_option linter.unusedSimpArgs false
set_option linter.unusedVariables false
open Go.ChangeShapes Go.WideShapes Go.ChangeAt Go.RowKit
open Go.ChangeMaps (open_string shut_string)

set_option maxHeartbeats 16000000 in
set_option maxRecDepth 100000 in
theorem prints_bad {c0 C : ByteArray} {w : World} (hsc : ∀ wx, Calls Tryz.prog 12 #[.string c0, .int .i64 2000] wx fun e w' => e = .returned (.string C) ∧ wx = w') (hsh : w.ShapedOpen Tryz.prog) (ht : TabN w) {i j : Nat} {er : Int} (hne : er ≠ 0) (hp : parseG (toL C) = .error (i, j, er)) :
    Calls Tryz.prog 4 #[.string c0] w fun e w' => e = .returned (.bool true) ∧ Below w.heap.size w w' := by
  have HSC := Lib.hid hsc
  have HB0 := Lib.hid (Below.refl w.heap.size w)
  have HKN := Lib.hid (fun wx (hx : Below w.heap.size w wx) => law_known wx (shaped_below hsh hx) (ht.below hx))
  have H1 := Lib.hid (fun wx (hx : Below w.heap.size w wx) => pa_err (shaped_below hsh hx) hp)
  have hne' : (er != 0) = true := bne_iff_ne.2 hne
  clear hp hne
  clear hsh ht hsc
  go_enter Tryz.func4, Tryz.ntmps4
  go_wp2_with (first
    | (go_at_call 12; (with_reducible refine (HSC.out _).mono ?_); rintro e w' ⟨rfl, rfl⟩)
    | (go_at_call 11; (with_reducible refine (H1.out _ HB0.out).mono ?_); rintro e w1 ⟨rfl, hb1⟩; have HB := Lib.hid hb1; clear hb1)
    | (go_at_call 13; (with_reducible refine (HKN.out _ HB.out).mono ?_); rintro e w5 ⟨rfl, hb5⟩; have HB := Lib.hid (HB.out.trans (hb5.mono HB.out.size)); clear hb5))
  go_ret
  exact ⟨rfl, HB.out⟩
set_option maxHeartbeats 16000000 in
set_option maxRecDepth 100000 in
theorem prints_good {c0 C : ByteArray} {w : World} (hC : C.size ≤ 2000) (hsc : ∀ wx, Calls Tryz.prog 12 #[.string c0, .int .i64 2000] wx fun e w' => e = .returned (.string C) ∧ wx = w') (hsh : w.ShapedOpen Tryz.prog) (ht : TabN w) {la : List RuleS} (hp : parseG (toL C) = .ok la) :
    Calls Tryz.prog 4 #[.string c0] w fun e w' => e = .returned (.bool true) ∧ Below w.heap.size w w' := by
  obtain ⟨k1, k2, k3, k4, k5⟩ := parse_back (by rw [toL_length]; omega) hp
  obtain ⟨lb, hlb⟩ : ∃ lb, la.map nfR = lb := ⟨_, rfl⟩
  have hll : lb.length = la.length := by rw [← hlb, List.length_map]
  rw [hlb] at k4 k5
  obtain ⟨T, hT⟩ : ∃ T, ofL (printRs la) = T := ⟨_, rfl⟩
  have hT2 : toL T = printRs la := by rw [← hT, toL_ofL]
  have HSC := Lib.hid hsc
  have HB0 := Lib.hid (Below.refl w.heap.size w)
  have HKN := Lib.hid (fun wx (hx : Below w.heap.size w wx) => law_known wx (shaped_below hsh hx) (ht.below hx))
  have H1 := Lib.hid (fun wx (hx : Below w.heap.size w wx) => pa_ok (shaped_below hsh hx) hp)
  have H2 := Lib.hid (fun wx (hx : Below w.heap.size w wx) => pa_ok (s := T) (shaped_below hsh hx) (by rw [hT2]; exact k4))
  have HP := Lib.hid (fun wx (ll : List RuleS) rb (hx : Below w.heap.size w wx) (hr : RulesIn wx rb ll) (hl : ll.length ≤ 200) (he : printRs ll = printRs la) => show Calls Tryz.prog 18 #[.pointer (some ⟨rb, 0, none⟩)] wx (fun e w' => e = .returned (.string T) ∧ Below wx.heap.size wx w') from by
    have h := sc_print (shaped_below hsh hx) (ht.below hx) hr (by omega) (by rw [he]; omega)
    unfold StP at h
    rw [he, hT] at h
    exact h)
  have HE := Lib.hid (fun wx (l1 l2 : List RuleS) r1 r2 (hx : Below w.heap.size w wx) (h1 : RulesIn wx r1 l1) (h2 : RulesIn wx r2 l2) (g1 : l1.length ≤ 200) (g2 : l2.length ≤ 200) (e1 : printRs l1 = printRs la) (e2 : printRs l2 = printRs la) => show Calls Tryz.prog 19 #[.pointer (some ⟨r1, 0, none⟩), .pointer (some ⟨r2, 0, none⟩)] wx (fun e w' => e = .returned (.bool true) ∧ Below wx.heap.size wx w') from by
    have h := sc_equal (shaped_below hsh hx) (ht.below hx) h1 h2 (by omega) (by omega) (by rw [e1]; omega) (by rw [e2]; omega)
    rw [show decide (printRs l1 = printRs l2) = true from by rw [e1, e2]; simp] at h
    exact h)
  have HLA := Lib.hid k2
  have HLB := Lib.hid (show lb.length ≤ 200 from by omega)
  have HEQ := Lib.hid k5
  have htt : (T.toList == T.toList) = true := by simp
  clear hp k1 k2 k3 k4 k5 hll hlb hT hT2
  clear hsh ht hsc
  go_enter Tryz.func4, Tryz.ntmps4
  go_wp2_with (first
    | (go_at_call 12; (with_reducible refine (HSC.out _).mono ?_); rintro e w' ⟨rfl, rfl⟩)
    | (go_at_call 11; (with_reducible refine (H1.out _ HB0.out).mono ?_); rintro e w1 ⟨ra, rfl, hr1, hb1⟩; have HRA := Lib.hid hr1; have HB := Lib.hid hb1; clear hb1 hr1 HB0)
    | (go_at_call 13; (with_reducible refine (HKN.out _ HB.out).mono ?_); rintro e w5 ⟨rfl, hb5⟩; have HRA := Lib.hid (HRA.out.below hb5); have HB := Lib.hid (HB.out.trans (hb5.mono HB.out.size)); clear hb5)
    | (go_at_call 18; (with_reducible refine (HP.out _ la ra HB.out HRA.out HLA.out rfl).mono ?_); rintro e w5 ⟨rfl, hb5⟩; have HRA := Lib.hid (HRA.out.below hb5); have HB := Lib.hid (HB.out.trans (hb5.mono HB.out.size)); clear hb5)
    | (go_at_call 11; (with_reducible refine (H2.out _ HB.out).mono ?_); rintro e w2 ⟨rb, rfl, hr2, hb2⟩; have HRA := Lib.hid (HRA.out.below hb2); have HRB := Lib.hid hr2; have HB := Lib.hid (HB.out.trans (hb2.mono HB.out.size)); clear hb2 hr2)
    | (go_at_call 18; (with_reducible refine (HP.out _ lb rb HB.out HRB.out HLB.out HEQ.out).mono ?_); rintro e w5 ⟨rfl, hb5⟩; have HRA := Lib.hid (HRA.out.below hb5); have HRB := Lib.hid (HRB.out.below hb5); have HB := Lib.hid (HB.out.trans (hb5.mono HB.out.size)); clear hb5)
    | (go_at_call 19; (with_reducible refine (HE.out _ la lb ra rb HB.out HRA.out HRB.out HLA.out HLB.out rfl HEQ.out).mono ?_); rintro e w5 ⟨rfl, hb5⟩; have HRA := Lib.hid (HRA.out.below hb5); have HRB := Lib.hid (HRB.out.below hb5); have HB := Lib.hid (HB.out.trans (hb5.mono HB.out.size)); clear hb5)
    | (go_at_call 19; (with_reducible refine (HE.out _ lb la rb ra HB.out HRB.out HRA.out HLB.out HLA.out HEQ.out rfl).mono ?_); rintro e w5 ⟨rfl, hb5⟩; have HRA := Lib.hid (HRA.out.below hb5); have HRB := Lib.hid (HRB.out.below hb5); have HB := Lib.hid (HB.out.trans (hb5.mono HB.out.size)); clear hb5)
    | (go_at_call 19; (with_reducible refine (ni_eq1 _ _).mono ?_); rintro e w5 ⟨rfl, rfl⟩))
  go_ret
  exact ⟨rfl, HB.out⟩
theorem ScorePrints_walk (c0 : ByteArray) (hc0 : c0.size ≤ maxLen) (w : World) (hsh : w.ShapedOpen Tryz.prog) (ht : TabN w) :
    Calls Tryz.prog 4 #[.string c0] w fun e w' => e = .returned (.bool true) ∧ Below w.heap.size w w' := by
  have hsc := fun wx => law_short c0 hc0 2000 2000 rfl wx (by omega)
  have hC : (c0.extract 0 (min c0.size 2000)).size ≤ 2000 := by
    have := congrArg List.length (short_toL c0 2000)
    rw [toL_length, List.length_take] at this; omega
  generalize c0.extract 0 (min c0.size 2000) = C at *
  cases hp : parseG (toL C) with
  | error g => exact prints_bad hsc hsh ht (nz_parse hp) (by rw [hp])
  | ok la => exact prints_good hC hsc hsh ht hp
set_option maxRecDepth 100000 in
theorem ScorePrints_contract (H : Type) (enc : TypeId × Value → H) (W : World) (base : Nat) (args : Array Value) (ds gs : List (DataW H)) (before : List MemPlace)
    (hval0 : ∀ (j : Nat) t v, Tryz.f4.params[j]? = some t → args[j]? = some v → Value.okWide Tryz.prog W .any base t v)
    (hW : DataW.Whole enc Tryz.prog Tryz.f4.params.toList Rows.scorePrintsSpec.vars false W args.toList ds gs before) (hsh : W.ShapedOpen Tryz.prog) (htab : TabN W) :
    Calls Tryz.prog 4 args W fun e W' => ∃ v, e = .returned v ∧ Rows.scorePrintsSpec.post enc Tryz.prog Tryz.f4 false true false false W args v W' := by
  have hval : ∀ (j : Nat) t v, Tryz.f4.params[j]? = some t → args[j]? = some v → Value.okWide Tryz.prog W .any base t v := hval0
  have hW' := hW
  obtain ⟨p, q, hA0, hV, rfl, hfz, hnd⟩ := hW
  have hA : DataW.TrodAll enc Tryz.prog W 0 (fun _ => true) true Tryz.f4.params.toList args.toList ds p := hA0
  rw [Tryz.params4] at hA hval
  obtain ⟨v0, vs0, d0, ds0, p0, q0, hargs, rfl, rfl, h0, r0⟩ := trodAll_cons hA
  obtain ⟨rfl, rfl, rfl⟩ := trodAll_nil r0
  obtain rfl : args = #[v0] := by cases args; simp_all
  obtain ⟨rfl, rfl⟩ := trodVars_none hV
  obtain ⟨a0, rfl, rfl, rfl, w0⟩ := open_string Tryz.underlying9 (hval 0 9 v0 rfl rfl) h0
  refine (ScorePrints_walk a0 w0 W hsh htab).mono fun e W' ⟨he, hg⟩ => ?_
  subst he
  exact ⟨_, rfl, law_post hW' rfl rfl rfl (by decide +kernel) hg⟩

theorem ScorePrints_reads (os : Os) {H : Type} (enc : TypeId × Value → H) : ∃ places, DataW.whole enc Tryz.prog ((laidWorld os).forCall (fun _ _ => 0) ⟨#[], #[.string ByteArray.empty], []⟩).memory Tryz.f4.params.toList Rows.scorePrintsSpec.vars false ((#[.string ByteArray.empty] : Array Value)).toList 8 = some ([.lit (.string [])], [], places) :=
  ⟨[], by kernel_rfl⟩

set_option maxRecDepth 100000 in
theorem ScorePrints_lifted (os : Os) (started : os.Started) (H : Type) (enc : TypeId × Value → H) (F : Stop.Interp) :
    ReturnsInHanded {} Tryz.checked os 4 .any ((OpenSpec.ofChange Rows.scorePrintsSpec).preRow enc Tryz.prog Tryz.f4 Rows.scorePrintsRow.domain false Rows.scorePrintsRow.laid) (((OpenSpec.ofChange Rows.scorePrintsSpec).at F).post enc Tryz.prog Tryz.f4 false true false false) := by
  obtain ⟨places, hx⟩ := ScorePrints_reads os enc
  refine returnsInHanded_of_row (C := Tryz.checked) (s := OpenSpec.ofChange Rows.scorePrintsSpec) own started (by kernel_rfl) Tryz.func4
    (witness_row_at (enc := enc) (C := Tryz.checked) false (laidWorld os) #[.string ByteArray.empty] rfl (by kernel_rfl) (by kernel_rfl) (by kernel_rfl)
      (OpenSpec.preRow_of_cond 8 hx (by kernel_rfl) (fun k hk => by cases hk) (by kernel_rfl) (laid_met os #[.string ByteArray.empty]))) ?_
  intro W base args ds gs before hval hW _ _ _ hL hsh _
  exact ScorePrints_contract H enc W base args ds gs before hval hW hsh (tabN_of_laid hL)

theorem ScorePrints_said : Rows.ScorePrintsSaid :=
  OpenClaim.holds_of_cond 4 Tryz.f4 rfl rfl rfl rfl rfl rfl rfl ⟨rfl, rfl, rfl, rfl, rfl⟩ rfl rfl rfl rfl rfl (by kernel_rfl) Tryz.func4 (by kernel_rfl)
    (of_decide_eq_true (by kernel_rfl)) (by unfold Func.isWrapper; first | (rw [if_pos (by decide +kernel)]; kernel_rfl) | (rw [if_neg (by decide +kernel)]; exact ⟨rfl, rfl⟩))
    (fun os started H enc _ F => by rw [OpenClaim.pre_eq_preRow]; exact ScorePrints_lifted os started H enc F)

theorem ScorePrints_plain (f : FuncId) (fn : Func) (hf : Tryz.pinned.checked.prog.funcNamed Rows.scorePrintsRow.func = some f) (hfn : Tryz.pinned.checked.prog.funcs[f]? = some fn) :
    true = Tryz.pinned.checked.prog.looks [] ∧ ∀ (j : Nat) t, fn.params[j]? = some t → Tryz.pinned.checked.prog.wantsStandIn t = false := by
  obtain rfl : f = 4 := Option.some.inj ((show Tryz.prog.funcNamed Rows.scorePrintsRow.func = some 4 by kernel_rfl).symm.trans hf) |>.symm
  obtain rfl : fn = Tryz.f4 := (Option.some.inj (Tryz.func4.symm.trans hfn)).symm
  refine ⟨by kernel_rfl, fun j t ht => ?_⟩
  rw [Tryz.params4] at ht
  have hm := Array.mem_of_getElem? ht
  simp only [List.mem_toArray, List.mem_cons, List.not_mem_nil, or_false] at hm
  subst hm
  exact (show Tryz.prog.wantsStandIn 9 = false by kernel_rfl)

theorem ScorePrints_proved : Rows.ScorePrintsCardSaid :=
  Claim7.holds_tied_plain_at .later [] _ _ _ _ ScorePrints_said (fun _ h => by cases h) (by kernel_rfl) (fun _ h => by cases h) scorePrints_row_tie rfl ⟨rfl, rfl⟩ (by kernel_rfl) rfl ScorePrints_plain (by kernel_rfl)
end Go.Proofs.YtannhfnpigiggaaGreatDoor
