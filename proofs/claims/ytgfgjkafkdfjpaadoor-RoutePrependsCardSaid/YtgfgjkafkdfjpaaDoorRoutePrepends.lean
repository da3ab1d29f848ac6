/- For every list of names and every name, RoutePrepends returns true: Prepend agrees with the reference and does not change the route. No condition. -/
import Derived.Test.YtgfgjkafkdfjpaaDoorRouteL
import Derived.Test.YtgfgjkafkdfjpaaDoorMem4
namespace Go.Proofs.YtgfgjkafkdfjpaaDoor
set_option linter.unusedSimpArgs false
set_option linter.unusedVariables false
open Go.ChangeShapes Go.WideShapes Go.ChangeAt Go.RowKit
open Go.ChangeMaps (open_string shut_string)

theorem prep_len (l : List Bs) (s : Bs) : (prependR l s).1.length ≤ 50 := by
  unfold prependR
  split
  · simp
  · split
    · simp
    · simp only [List.length_take]; omega

set_option maxHeartbeats 4000000 in
set_option maxRecDepth 100000 in
theorem RoutePrepends_walk (A : Option Addr) (l : List Bs) (c : Nat) {w : World} (hr : Row w A (strsL l)) (hs : SizedS l c) (a : ByteArray) (ha : a.size ≤ maxLen) (_ : World) (hsh : w.ShapedOpen Tryd.prog) :
    Calls Tryd.prog 5 #[.slice A l.length c, .string a] w fun e w' => e = .returned (.bool true) ∧ Below w.heap.size w w' := by
  unfold maxLen at ha
  have HSH := Lib.hid hsh; clear hsh
  have HC := Lib.hid (cut_any A l c w hr hs)
  have HT := Lib.hid (cutS_tame l)
  have hlen : (cutS l).length ≤ 60 := by rw [cutS_length]; omega
  clear hr hs
  go_enter Tryd.func5, Tryd.ntmps5
  go_wp2_with fail
  (with_reducible refine HC.out.mono ?_)
  rintro e w1 ⟨A1, c1, rfl, hcap1, hrow1, hw1⟩
  have HR1 := Lib.hid hrow1; clear hrow1 HC
  generalize cutS l = L at *
  have n1 : (0 : Int) ≤ min (a.size : Int) 40 := by omega
  have n2 : min (a.size : Int) 40 ≤ (a.size : Int) := by omega
  have hx1 : (a.extract 0 (min (a.size : Int) 40).toNat).size ≤ 1000000 := by rw [extract_size _ _ _ (by omega)]; omega
  have hA : Below w1.heap.size w1 (w1.alloc (.cells #[] 9)) := (Below.refl _ _).alloc (Nat.le_refl _) _
  have HRA := Lib.hid (HR1.out.below hA)
  have HOL := Lib.hid (World.ownsRow_lit (base := w1.heap.size) (e := 9) (size := 1) w1 #[] 0 (Nat.le_refl _) (by decide) rfl)
  go_wp2_with ((at_builtin; refine wpList_pourT (l := L) (A := A1) (c := c1) el_string Tryd.underlying23 rfl _ _ rfl HOL.out rfl rfl HRA.out ?q1 ?q2 ?_; (case q1 => omega); (case q2 => simp); intro v2 w2 hown2 hg2 hat2))
  have hF2 : StrsOwn w1 w2 v2 L := pour_own hA rfl hown2 hg2
  clear hown2 hg2 hat2 HOL HRA hA
  obtain ⟨A2, c2, rfl, hrow2⟩ := own_row hF2.own
  have hb2 := hF2.bel
  have hw2 := hw1.trans (hb2.mono hw1.size)
  have HR2 := Lib.hid (HR1.out.below hb2)
  have HW2 := Lib.hid hrow2
  clear HR1 hrow2 hF2
  generalize a.extract 0 (min (a.size : Int) 40).toNat = x at *
  have hpl := prep_len L (toL x)
  (with_reducible refine (rt_prepend A1 L c1 x w2 HR2.out HT.out hx1).mono ?_)
  rintro e w3 ⟨v3, rfl, hF3⟩
  obtain ⟨A3, c3, rfl, hrow3⟩ := own_row hF3.own
  have HWR3 := Lib.hid (writable_of hF3.own)
  have hb3 := hF3.bel
  have HP3 := Lib.hid hrow3
  have HR3 := Lib.hid (HR2.out.below hb3)
  clear hrow3 hF3
  go_wp2_with fail
  (with_reducible refine (refr_prepend A1 L c1 x w3 HR3.out HT.out hx1).mono ?_)
  rintro e w4 ⟨v4, rfl, hF4⟩
  obtain ⟨A4, c4, rfl, hrow4⟩ := own_row hF4.own
  have hb4 := hF4.bel
  have HQ4 := Lib.hid hrow4
  have HP4 := Lib.hid (HP3.out.below hb4)
  have HWR4 := Lib.hid (HWR3.out.below hb4)
  have hb24 := hb3.trans (hb4.mono hb3.size)
  clear hrow4 hF4 HP3 HWR3 HR3
  generalize prependR L (toL x) = pr at *
  obtain ⟨M, e0⟩ := pr
  simp only at HQ4 HP4 HWR4 hpl ⊢
  go_wp2_with fail
  (with_reducible refine (refs_same A3 A4 M M c3 c4 w4 HP4.out HQ4.out (by omega) (by omega)).mono ?_)
  rintro e w5 ⟨rfl, hb5⟩
  simp only [decide_true]
  have HWR5 := Lib.hid (HWR4.out.below hb5)
  have hb25 := hb24.trans (hb5.mono hb24.size)
  have hee : (e0 != e0) = false := by simp
  clear HWR4 HP4 HQ4 n1 n2 ha hb3 hb4 hb5 hb24
  go_wp2_with fail
  go_loopg [11] M.length (fun g ix wr => ∃ k : Nat, g = M.length - k ∧ k ≤ M.length ∧ ix = .int .i64 k ∧ Writable wr A3 M.length w2.heap.size ∧ Below w2.heap.size w2 wr)
  case atStart => exact ⟨0, by omega, by omega, rfl, HWR5.out, hb25⟩
  case round =>
    obtain ⟨k, rfl, hk, rfl, hWR, hB⟩ := hrel
    have HWR := Lib.hid hWR; clear hWR
    by_cases hlt : k < M.length
    · have hk1 : (0 : Int) ≤ (k : Int) := by omega
      have hk2 : (k : Int) < (M.length : Int) := by omega
      rcases HWR.out with h0 | ⟨g, rfl, hg, hc⟩
      · omega
      · obtain ⟨⟨v, hv⟩, hf⟩ := hc k hlt
        clear hc
        go_wp2_with fail
        go_roundg (M.length - (k + 1))
        case measure => omega
        case rel => exact ⟨k + 1, rfl, by omega, by go_num, HWR.out.set _ _, hB.setCell (p := ⟨g, k, none⟩) hg _⟩
    · have hw6 := hw2.trans (hB.mono hw2.size)
      have HSH6 := Lib.hid (shaped_below HSH.out hw6)
      have HR6 := Lib.hid (HR2.out.below hB)
      have HW6 := Lib.hid (HW2.out.below hB)
      go_wp2_with fail
      (with_reducible refine (law_known wr HSH6.out).mono ?_)
      rintro e w7 ⟨rfl, hb7⟩
      have hw7 := hw6.trans (hb7.mono hw6.size)
      have HR7 := Lib.hid (HR6.out.below hb7)
      have HW7 := Lib.hid (HW6.out.below hb7)
      go_wp2_with fail
      (with_reducible refine (refs_same A1 A2 L L c1 c2 w7 HR7.out HW7.out (by omega) (by omega)).mono ?_)
      rintro e w8 ⟨rfl, hb8⟩
      simp only [decide_true]
      go_wp2_with fail
      go_ret
      exact ⟨ret_bool (by simp), hw7.trans (hb8.mono hw7.size)⟩

set_option maxRecDepth 100000 in
theorem RoutePrepends_contract (H : Type) (enc : TypeId × Value → H) (W : World) (base : Nat) (args : Array Value) (ds gs : List (DataW H)) (before : List MemPlace)
    (hval0 : ∀ (j : Nat) t v, Tryd.f5.params[j]? = some t → args[j]? = some v → Value.okWide Tryd.prog W .any base t v)
    (hW : DataW.Whole enc Tryd.prog Tryd.f5.params.toList Rows.routePrependsSpec.vars false W args.toList ds gs before) (hsh : W.ShapedOpen Tryd.prog) :
    Calls Tryd.prog 5 args W fun e W' => ∃ v, e = .returned v ∧ Rows.routePrependsSpec.post enc Tryd.prog Tryd.f5 false true false false W args v W' := by
  have hval : ∀ (j : Nat) t v, Tryd.f5.params[j]? = some t → args[j]? = some v → Value.okWide Tryd.prog W .any base t v := hval0
  have hW' := hW
  obtain ⟨p, q, hA0, hV, rfl, hfz, hnd⟩ := hW
  have hA : DataW.TrodAll enc Tryd.prog W 0 (fun _ => true) true Tryd.f5.params.toList args.toList ds p := hA0
  rw [Tryd.params5] at hA hval
  obtain ⟨v0, vs0, d0, ds0, p0, q0, hargs, rfl, rfl, h0, r0⟩ := trodAll_cons hA
  obtain ⟨v1, vs1, d1, ds1, p1, q1, rfl, rfl, rfl, h1, r1⟩ := trodAll_cons r0
  obtain ⟨rfl, rfl, rfl⟩ := trodAll_nil r1
  obtain rfl : args = #[v0, v1] := by cases args; simp_all
  obtain ⟨rfl, rfl⟩ := trodVars_none hV
  obtain ⟨A0, l0, c0, hv0, hrow0, hsz0⟩ := open_strs Tryd.underlying22 Tryd.underlying9 (by kernel_rfl) (hval 0 22 v0 rfl rfl) h0
  subst hv0
  obtain ⟨a1, rfl, rfl, rfl, w1⟩ := open_string Tryd.underlying9 (hval 1 9 v1 rfl rfl) h1
  refine (RoutePrepends_walk A0 l0 c0 hrow0 hsz0 a1 w1 W hsh).mono fun e W' ⟨he, hg⟩ => ?_
  subst he
  exact ⟨_, rfl, law_post hW' rfl rfl rfl (by decide +kernel) hg⟩

theorem RoutePrepends_reads (os : Os) {H : Type} (enc : TypeId × Value → H) : ∃ places, DataW.whole enc Tryd.prog ((laidWorld os).forCall (fun _ _ => 0) ⟨#[], #[.slice none 0 0, .string ByteArray.empty], []⟩).memory Tryd.f5.params.toList Rows.routePrependsSpec.vars false ((#[.slice none 0 0, .string ByteArray.empty] : Array Value)).toList 8 = some ([.nil, .lit (.string [])], [], places) :=
  ⟨[], by kernel_rfl⟩

set_option maxRecDepth 100000 in
theorem RoutePrepends_lifted (os : Os) (started : os.Started) (H : Type) (enc : TypeId × Value → H) (F : Stop.Interp) :
    ReturnsInHanded {} Tryd.checked os 5 .any ((OpenSpec.ofChange Rows.routePrependsSpec).preRow enc Tryd.prog Tryd.f5 Rows.routePrependsRow.domain false Rows.routePrependsRow.laid) (((OpenSpec.ofChange Rows.routePrependsSpec).at F).post enc Tryd.prog Tryd.f5 false true false false) := by
  obtain ⟨places, hx⟩ := RoutePrepends_reads os enc
  refine returnsInHanded_of_row (C := Tryd.checked) (s := OpenSpec.ofChange Rows.routePrependsSpec) own started (by kernel_rfl) Tryd.func5
    (witness_row_at (enc := enc) (C := Tryd.checked) false (laidWorld os) #[.slice none 0 0, .string ByteArray.empty] rfl (by kernel_rfl) (by kernel_rfl) (by kernel_rfl)
      (OpenSpec.preRow_of_cond 8 hx (by kernel_rfl) (fun k hk => by cases hk) (by kernel_rfl) (laid_met os #[.slice none 0 0, .string ByteArray.empty]))) ?_
  intro W base args ds gs before hval hW _ _ _ hL hsh _
  exact RoutePrepends_contract H enc W base args ds gs before hval hW hsh

theorem RoutePrepends_said : Rows.RoutePrependsSaid :=
  OpenClaim.holds_of_cond 5 Tryd.f5 rfl rfl rfl rfl rfl rfl rfl ⟨rfl, rfl, rfl, rfl, rfl⟩ rfl rfl rfl rfl rfl (by kernel_rfl) Tryd.func5 (by kernel_rfl)
    (of_decide_eq_true (by kernel_rfl)) (by unfold Func.isWrapper; first | (rw [if_pos (by decide +kernel)]; kernel_rfl) | (rw [if_neg (by decide +kernel)]; exact ⟨rfl, rfl⟩))
    (fun os started H enc _ F => by rw [OpenClaim.pre_eq_preRow]; exact RoutePrepends_lifted os started H enc F)

theorem RoutePrepends_plain (f : FuncId) (fn : Func) (hf : Tryd.pinned.checked.prog.funcNamed Rows.routePrependsRow.func = some f) (hfn : Tryd.pinned.checked.prog.funcs[f]? = some fn) :
    false = Tryd.pinned.checked.prog.looks [] ∧ ∀ (j : Nat) t, fn.params[j]? = some t → Tryd.pinned.checked.prog.wantsStandIn t = false := by
  obtain rfl : f = 5 := Option.some.inj ((show Tryd.prog.funcNamed Rows.routePrependsRow.func = some 5 by kernel_rfl).symm.trans hf) |>.symm
  obtain rfl : fn = Tryd.f5 := (Option.some.inj (Tryd.func5.symm.trans hfn)).symm
  refine ⟨by kernel_rfl, fun j t ht => ?_⟩
  rw [Tryd.params5] at ht
  have hm := Array.mem_of_getElem? ht
  simp only [List.mem_toArray, List.mem_cons, List.not_mem_nil, or_false] at hm
  rcases hm with rfl | rfl
  · exact (show Tryd.prog.wantsStandIn 22 = false by kernel_rfl)
  · exact (show Tryd.prog.wantsStandIn 9 = false by kernel_rfl)

theorem RoutePrepends_proved : Rows.RoutePrependsCardSaid :=
  Claim7.holds_tied_plain_at .later [] _ _ _ _ RoutePrepends_said (fun _ h => by cases h) (by kernel_rfl) (fun _ h => by cases h) routePrepends_row_tie rfl ⟨rfl, rfl⟩ (by kernel_rfl) rfl RoutePrepends_plain (by kernel_rfl)

end Go.Proofs.YtgfgjkafkdfjpaaDoor
