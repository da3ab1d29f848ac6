/- For any two lists of names, RouteCommon returns true: Common returns the longest common end. No condition. -/
import Derived.Test.YtgfgjkafkdfjpaaDoorRouteL
import Derived.Test.YtgfgjkafkdfjpaaDoorCommonP
namespace Go.Proofs.YtgfgjkafkdfjpaaDoor
set_option linter.unusedSimpArgs false
set_option linter.unusedVariables false
open Go.ChangeShapes Go.WideShapes Go.ChangeAt Go.RowKit
open Go.ChangeMaps (open_string shut_string)

set_option maxHeartbeats 4000000 in
set_option maxRecDepth 100000 in
theorem RouteCommon_walk (A : Option Addr) (l : List Bs) (c : Nat) {w : World} (hr : Row w A (strsL l)) (hs : SizedS l c) (B : Option Addr) (m : List Bs) (d : Nat) (hq : Row w B (strsL m)) (ht : SizedS m d) (_ : World) (hsh : w.ShapedOpen Tryd.prog) :
    Calls Tryd.prog 9 #[.slice A l.length c, .slice B m.length d] w fun e w' => e = .returned (.bool true) ∧ Below w.heap.size w w' := by
  have HQ := Lib.hid hq; clear hq
  have HSH := Lib.hid hsh; clear hsh
  have HC := Lib.hid (cut_any A l c w hr hs)
  have HT := Lib.hid (cutS_tame l)
  have hlen : (cutS l).length ≤ 60 := by rw [cutS_length]; omega
  clear hr hs
  go_enter Tryd.func9, Tryd.ntmps9
  go_wp2_with fail
  (with_reducible refine HC.out.mono ?_)
  rintro e w1 ⟨A1, c1, rfl, hcap1, hrow1, hw1⟩
  have HR1 := Lib.hid hrow1; clear hrow1 HC
  have HC2 := Lib.hid (cut_any B m d w1 (HQ.out.below hw1) ht)
  have hlen2 : (cutS m).length ≤ 60 := by rw [cutS_length]; omega
  clear ht HQ
  generalize cutS l = X at *
  generalize cutS m = Y at *
  go_wp2_with fail
  (with_reducible refine HC2.out.mono ?_)
  rintro e w2 ⟨A2, c2, rfl, hcap2, hrow2, hb2⟩
  have hw2 := hw1.trans (hb2.mono hw1.size)
  have HX2 := Lib.hid (HR1.out.below hb2)
  have HY2 := Lib.hid hrow2
  clear HR1 hrow2 HC2
  have HSYM := Lib.hid (common_symm X Y)
  have HSELF := Lib.hid (common_self X)
  have hcl := common_len X Y
  go_wp2_with fail
  (with_reducible refine (rt_common A1 A2 X Y c1 c2 w2 HX2.out HY2.out (by omega) (by omega) hcap1).mono ?_)
  rintro e w3 ⟨v3, rfl, hF3⟩
  obtain ⟨A3, c3, rfl, hrow3⟩ := own_row hF3.own
  have hb3 := hF3.bel
  have hw3 := hw2.trans (hb3.mono hw2.size)
  have HX3 := Lib.hid (HX2.out.below hb3)
  have HY3 := Lib.hid (HY2.out.below hb3)
  have HC3 := Lib.hid hrow3
  clear HX2 HY2 hrow3 hF3
  have HSH3 := Lib.hid (shaped_below HSH.out hw3)
  go_wp2_with fail
  (with_reducible refine (law_known w3 HSH3.out).mono ?_)
  rintro e w4 ⟨rfl, hb4⟩
  have hw4 := hw3.trans (hb4.mono hw3.size)
  have HX4 := Lib.hid (HX3.out.below hb4)
  have HY4 := Lib.hid (HY3.out.below hb4)
  have HC4 := Lib.hid (HC3.out.below hb4)
  clear HX3 HY3 HC3
  go_wp2_with fail
  (with_reducible refine (refr_common A1 A2 X Y c1 c2 w4 HX4.out HY4.out (by omega) (by omega) hcap1).mono ?_)
  rintro e w5 ⟨v5, rfl, hF5⟩
  obtain ⟨A5, c5, rfl, hrow5⟩ := own_row hF5.own
  have hb5 := hF5.bel
  have hw5 := hw4.trans (hb5.mono hw4.size)
  have HX5 := Lib.hid (HX4.out.below hb5)
  have HY5 := Lib.hid (HY4.out.below hb5)
  have HC5 := Lib.hid (HC4.out.below hb5)
  have HD5 := Lib.hid hrow5
  clear HX4 HY4 HC4 hrow5 hF5
  go_wp2_with fail
  (with_reducible refine (refs_same A3 A5 (commonR X Y) (commonR X Y) c3 c5 w5 HC5.out HD5.out (by omega) (by omega)).mono ?_)
  rintro e w6 ⟨rfl, hb6⟩
  simp only [decide_true]
  have hw6 := hw5.trans (hb6.mono hw5.size)
  have HX6 := Lib.hid (HX5.out.below hb6)
  have HY6 := Lib.hid (HY5.out.below hb6)
  have HC6 := Lib.hid (HC5.out.below hb6)
  clear HX5 HY5 HC5 HD5
  go_wp2_with fail
  (with_reducible refine (rt_common A2 A1 Y X c2 c1 w6 HY6.out HX6.out (by omega) (by omega) hcap2).mono ?_)
  rintro e w7 ⟨v7, rfl, hF7⟩
  rw [HSYM.out] at hF7
  obtain ⟨A7, c7, rfl, hrow7⟩ := own_row hF7.own
  have hb7 := hF7.bel
  have hw7 := hw6.trans (hb7.mono hw6.size)
  have HX7 := Lib.hid (HX6.out.below hb7)
  have HC7 := Lib.hid (HC6.out.below hb7)
  have HD7 := Lib.hid hrow7
  clear HX6 HY6 HC6 hrow7 hF7
  go_wp2_with fail
  (with_reducible refine (refs_same A7 A3 (commonR X Y) (commonR X Y) c7 c3 w7 HD7.out HC7.out (by omega) (by omega)).mono ?_)
  rintro e w8 ⟨rfl, hb8⟩
  simp only [decide_true]
  have hw8 := hw7.trans (hb8.mono hw7.size)
  have HX8 := Lib.hid (HX7.out.below hb8)
  clear HX7 HC7 HD7
  go_wp2_with fail
  (with_reducible refine (rt_common A1 A1 X X c1 c1 w8 HX8.out HX8.out (by omega) (by omega) hcap1).mono ?_)
  rintro e w9 ⟨v9, rfl, hF9⟩
  rw [HSELF.out] at hF9
  obtain ⟨A9, c9, rfl, hrow9⟩ := own_row hF9.own
  have hb9 := hF9.bel
  have hw9 := hw8.trans (hb9.mono hw8.size)
  have HX9 := Lib.hid (HX8.out.below hb9)
  have HD9 := Lib.hid hrow9
  clear HX8 hrow9 hF9
  go_wp2_with fail
  (with_reducible refine (refs_same A9 A1 X X c9 c1 w9 HD9.out HX9.out (by omega) (by omega)).mono ?_)
  rintro e w10 ⟨rfl, hb10⟩
  simp only [decide_true]
  go_wp2_with fail
  go_ret
  exact ⟨ret_bool (by simp), hw9.trans (hb10.mono hw9.size)⟩

set_option maxRecDepth 100000 in
theorem RouteCommon_contract (H : Type) (enc : TypeId × Value → H) (W : World) (base : Nat) (args : Array Value) (ds gs : List (DataW H)) (before : List MemPlace)
    (hval0 : ∀ (j : Nat) t v, Tryd.f9.params[j]? = some t → args[j]? = some v → Value.okWide Tryd.prog W .any base t v)
    (hW : DataW.Whole enc Tryd.prog Tryd.f9.params.toList Rows.routeCommonSpec.vars false W args.toList ds gs before) (hsh : W.ShapedOpen Tryd.prog) :
    Calls Tryd.prog 9 args W fun e W' => ∃ v, e = .returned v ∧ Rows.routeCommonSpec.post enc Tryd.prog Tryd.f9 false true false false W args v W' := by
  have hval : ∀ (j : Nat) t v, Tryd.f9.params[j]? = some t → args[j]? = some v → Value.okWide Tryd.prog W .any base t v := hval0
  have hW' := hW
  obtain ⟨p, q, hA0, hV, rfl, hfz, hnd⟩ := hW
  have hA : DataW.TrodAll enc Tryd.prog W 0 (fun _ => true) true Tryd.f9.params.toList args.toList ds p := hA0
  rw [Tryd.params9] at hA hval
  obtain ⟨v0, vs0, d0, ds0, p0, q0, hargs, rfl, rfl, h0, r0⟩ := trodAll_cons hA
  obtain ⟨v1, vs1, d1, ds1, p1, q1, rfl, rfl, rfl, h1, r1⟩ := trodAll_cons r0
  obtain ⟨rfl, rfl, rfl⟩ := trodAll_nil r1
  obtain rfl : args = #[v0, v1] := by cases args; simp_all
  obtain ⟨rfl, rfl⟩ := trodVars_none hV
  obtain ⟨A0, l0, c0, hv0, hrow0, hsz0⟩ := open_strs Tryd.underlying22 Tryd.underlying9 (by kernel_rfl) (hval 0 22 v0 rfl rfl) h0
  subst hv0
  obtain ⟨A1, l1, c1, hv1, hrow1, hsz1⟩ := open_strs Tryd.underlying22 Tryd.underlying9 (by kernel_rfl) (hval 1 22 v1 rfl rfl) h1
  subst hv1
  refine (RouteCommon_walk A0 l0 c0 hrow0 hsz0 A1 l1 c1 hrow1 hsz1 W hsh).mono fun e W' ⟨he, hg⟩ => ?_
  subst he
  exact ⟨_, rfl, law_post hW' rfl rfl rfl (by decide +kernel) hg⟩

theorem RouteCommon_reads (os : Os) {H : Type} (enc : TypeId × Value → H) : ∃ places, DataW.whole enc Tryd.prog ((laidWorld os).forCall (fun _ _ => 0) ⟨#[], #[.slice none 0 0, .slice none 0 0], []⟩).memory Tryd.f9.params.toList Rows.routeCommonSpec.vars false ((#[.slice none 0 0, .slice none 0 0] : Array Value)).toList 8 = some ([.nil, .nil], [], places) :=
  ⟨[], by kernel_rfl⟩

set_option maxRecDepth 100000 in
theorem RouteCommon_lifted (os : Os) (started : os.Started) (H : Type) (enc : TypeId × Value → H) (F : Stop.Interp) :
    ReturnsInHanded {} Tryd.checked os 9 .any ((OpenSpec.ofChange Rows.routeCommonSpec).preRow enc Tryd.prog Tryd.f9 Rows.routeCommonRow.domain false Rows.routeCommonRow.laid) (((OpenSpec.ofChange Rows.routeCommonSpec).at F).post enc Tryd.prog Tryd.f9 false true false false) := by
  obtain ⟨places, hx⟩ := RouteCommon_reads os enc
  refine returnsInHanded_of_row (C := Tryd.checked) (s := OpenSpec.ofChange Rows.routeCommonSpec) own started (by kernel_rfl) Tryd.func9
    (witness_row_at (enc := enc) (C := Tryd.checked) false (laidWorld os) #[.slice none 0 0, .slice none 0 0] rfl (by kernel_rfl) (by kernel_rfl) (by kernel_rfl)
      (OpenSpec.preRow_of_cond 8 hx (by kernel_rfl) (fun k hk => by cases hk) (by kernel_rfl) (laid_met os #[.slice none 0 0, .slice none 0 0]))) ?_
  intro W base args ds gs before hval hW _ _ _ hL hsh _
  exact RouteCommon_contract H enc W base args ds gs before hval hW hsh

theorem RouteCommon_said : Rows.RouteCommonSaid :=
  OpenClaim.holds_of_cond 9 Tryd.f9 rfl rfl rfl rfl rfl rfl rfl ⟨rfl, rfl, rfl, rfl, rfl⟩ rfl rfl rfl rfl rfl (by kernel_rfl) Tryd.func9 (by kernel_rfl)
    (of_decide_eq_true (by kernel_rfl)) (by unfold Func.isWrapper; first | (rw [if_pos (by decide +kernel)]; kernel_rfl) | (rw [if_neg (by decide +kernel)]; exact ⟨rfl, rfl⟩))
    (fun os started H enc _ F => by rw [OpenClaim.pre_eq_preRow]; exact RouteCommon_lifted os started H enc F)

theorem RouteCommon_plain (f : FuncId) (fn : Func) (hf : Tryd.pinned.checked.prog.funcNamed Rows.routeCommonRow.func = some f) (hfn : Tryd.pinned.checked.prog.funcs[f]? = some fn) :
    false = Tryd.pinned.checked.prog.looks [] ∧ ∀ (j : Nat) t, fn.params[j]? = some t → Tryd.pinned.checked.prog.wantsStandIn t = false := by
  obtain rfl : f = 9 := Option.some.inj ((show Tryd.prog.funcNamed Rows.routeCommonRow.func = some 9 by kernel_rfl).symm.trans hf) |>.symm
  obtain rfl : fn = Tryd.f9 := (Option.some.inj (Tryd.func9.symm.trans hfn)).symm
  refine ⟨by kernel_rfl, fun j t ht => ?_⟩
  rw [Tryd.params9] at ht
  have hm := Array.mem_of_getElem? ht
  simp only [List.mem_toArray, List.mem_cons, List.not_mem_nil, or_false] at hm
  rcases hm with rfl | rfl
  · exact (show Tryd.prog.wantsStandIn 22 = false by kernel_rfl)
  · exact (show Tryd.prog.wantsStandIn 22 = false by kernel_rfl)

theorem RouteCommon_proved : Rows.RouteCommonCardSaid :=
  Claim7.holds_tied_plain_at .later [] _ _ _ _ RouteCommon_said (fun _ h => by cases h) (by kernel_rfl) (fun _ h => by cases h) routeCommon_row_tie rfl ⟨rfl, rfl⟩ (by kernel_rfl) rfl RouteCommon_plain (by kernel_rfl)

end Go.Proofs.YtgfgjkafkdfjpaaDoor
