/- For every string, RouteParses returns true: Parse accepts exactly the texts of routes and returns the stated errors at the stated offsets. No condition. -/
import Derived.Test.YtgfgjkafkdfjpaaDoorRouteK
import Derived.Test.YtgfgjkafkdfjpaaDoorLaw
import Derived.Test.YtgfgjkafkdfjpaaDoorLaidW
import Derived.Test.YtgfgjkafkdfjpaaDoorOpen0
import Derived.Test.YtgfgjkafkdfjpaaDoorCards
import Derived.Test.YtgfgjkafkdfjpaaDoorTie
namespace Go.Proofs.YtgfgjkafkdfjpaaDoor
set_option linter.unusedSimpArgs false
set_option linter.unusedVariables false
open Go.ChangeShapes Go.WideShapes Go.ChangeAt Go.RowKit
open Go.ChangeMaps (open_string shut_string)

theorem parseGo_len (r : List Bs) : ∀ i at_ acc, acc.length ≤ i → i ≤ 50 → (parseGo r i at_ acc).1.length ≤ 50 := by
  induction r with
  | nil => intro i at_ acc h1 h2; simp [parseGo]; omega
  | cons x r ih =>
    intro i at_ acc h1 h2
    rw [parseGo]
    split
    · simp
    · split
      · simp
      · exact ih _ _ _ (by simp; omega) (by omega)
theorem parseR_len (l : Bs) : (parseR l).1.length ≤ 50 := by
  unfold parseR
  split
  · simp
  · exact parseGo_len _ _ _ _ (by simp) (by omega)

set_option maxHeartbeats 4000000 in
set_option maxRecDepth 100000 in
theorem RouteParses_walk (a : ByteArray) (ha : a.size ≤ maxLen) (w : World) (hsh : w.ShapedOpen Tryd.prog) :
    Calls Tryd.prog 3 #[.string a] w fun e w' => e = .returned (.bool true) ∧ Below w.heap.size w w' := by
  have HSH := Lib.hid hsh; clear hsh
  unfold maxLen at ha
  go_enter Tryd.func3, Tryd.ntmps3
  go_wp2_with fail
  have hx : (a.extract 0 (min (a.size : Int) 2000).toNat).size ≤ 2000 := by rw [extract_size _ _ _ (by omega)]; omega
  generalize a.extract 0 (min (a.size : Int) 2000).toNat = x at *
  (with_reducible refine (rt_parse x w HSH.out (by omega)).mono ?_)
  rintro e w1 ⟨v1, rfl, hF1⟩
  obtain ⟨A1, c1, rfl, hcap1, hrow1⟩ := own_row_cap hF1.own
  have hw1 := hF1.bel
  have HR1 := Lib.hid hrow1; clear hrow1 hF1
  go_wp2_with fail
  (with_reducible refine (refr_parse x w1 (by omega)).mono ?_)
  rintro e w2 ⟨v2, rfl, hF2⟩
  obtain ⟨A2, c2, rfl, hcap2, hrow2⟩ := own_row_cap hF2.own
  have hb2 := hF2.bel
  have hw2 := hw1.trans (hb2.mono hw1.size)
  have HR2 := Lib.hid hrow2; clear hrow2 hF2
  have HR12 := Lib.hid (HR1.out.below hb2); clear HR1
  have HLEN := Lib.hid (parseR_len (toL x))
  have HTX := Lib.hid (parse_text (toL x))
  generalize parseR (toL x) = r at *
  obtain ⟨L, at0, e0⟩ := r
  simp only at HLEN HTX HR2 HR12 hcap1 hcap2 ⊢
  have hL : L.length ≤ 50 := HLEN.out
  have HSH2 := Lib.hid (shaped_below HSH.out hw2)
  go_wp2_with fail
  (with_reducible refine (law_known w2 HSH2.out).mono ?_)
  rintro e w3 ⟨rfl, hb3⟩
  have hw3 := hw2.trans (hb3.mono hw2.size)
  have HA3 := Lib.hid (HR12.out.below hb3)
  have HB3 := Lib.hid (HR2.out.below hb3)
  clear HR12 HR2
  go_wp2_with fail
  (with_reducible refine (refs_same A1 A2 L L c1 c2 w3 HA3.out HB3.out (by omega) (by omega)).mono ?_)
  rintro e w4 ⟨rfl, hb4⟩
  simp only [decide_true]
  have hw4 := hw3.trans (hb4.mono hw3.size)
  have HA4 := Lib.hid (HA3.out.below hb4)
  by_cases h0 : e0 = 0
  · subst h0
    have HJ := Lib.hid (HTX.out rfl).1
    have hjl : (joinM L).length ≤ 1000000 := by rw [HJ.out, toL_length]; omega
    have HST := Lib.hid (rt_string A1 L c1 w4 HA4.out hcap1 hjl (by omega))
    rw [HJ.out, ofL_toL] at HST
    clear hjl
    go_wp2_with fail
    (with_reducible refine HST.out.mono ?_)
    rintro e w5 ⟨rfl, hb5⟩
    go_wp2_with fail
    go_ret
    exact ⟨ret_bool (by simp), hw4.trans (hb5.mono hw4.size)⟩
  · have h0' : (e0 != 0) = true := by simpa using h0
    clear h0
    go_wp2_with fail
    go_ret
    exact ⟨ret_bool (by simp), hw4⟩

set_option maxRecDepth 100000 in
theorem RouteParses_contract (H : Type) (enc : TypeId × Value → H) (W : World) (base : Nat) (args : Array Value) (ds gs : List (DataW H)) (before : List MemPlace)
    (hval0 : ∀ (j : Nat) t v, Tryd.f3.params[j]? = some t → args[j]? = some v → Value.okWide Tryd.prog W .any base t v)
    (hW : DataW.Whole enc Tryd.prog Tryd.f3.params.toList Rows.routeParsesSpec.vars false W args.toList ds gs before) (hsh : W.ShapedOpen Tryd.prog) :
    Calls Tryd.prog 3 args W fun e W' => ∃ v, e = .returned v ∧ Rows.routeParsesSpec.post enc Tryd.prog Tryd.f3 false true false false W args v W' := by
  have hval : ∀ (j : Nat) t v, Tryd.f3.params[j]? = some t → args[j]? = some v → Value.okWide Tryd.prog W .any base t v := hval0
  have hW' := hW
  obtain ⟨p, q, hA0, hV, rfl, hfz, hnd⟩ := hW
  have hA : DataW.TrodAll enc Tryd.prog W 0 (fun _ => true) true Tryd.f3.params.toList args.toList ds p := hA0
  rw [Tryd.params3] at hA hval
  obtain ⟨v0, vs0, d0, ds0, p0, q0, hargs, rfl, rfl, h0, r0⟩ := trodAll_cons hA
  obtain ⟨rfl, rfl, rfl⟩ := trodAll_nil r0
  obtain rfl : args = #[v0] := by cases args; simp_all
  obtain ⟨rfl, rfl⟩ := trodVars_none hV
  obtain ⟨a0, rfl, rfl, rfl, w0⟩ := open_string Tryd.underlying9 (hval 0 9 v0 rfl rfl) h0
  refine (RouteParses_walk a0 w0 W hsh).mono fun e W' ⟨he, hg⟩ => ?_
  subst he
  exact ⟨_, rfl, law_post hW' rfl rfl rfl (by decide +kernel) hg⟩

theorem RouteParses_reads (os : Os) {H : Type} (enc : TypeId × Value → H) : ∃ places, DataW.whole enc Tryd.prog ((laidWorld os).forCall (fun _ _ => 0) ⟨#[], #[.string ByteArray.empty], []⟩).memory Tryd.f3.params.toList Rows.routeParsesSpec.vars false ((#[.string ByteArray.empty] : Array Value)).toList 8 = some ([.lit (.string [])], [], places) :=
  ⟨[], by kernel_rfl⟩

set_option maxRecDepth 100000 in
theorem RouteParses_lifted (os : Os) (started : os.Started) (H : Type) (enc : TypeId × Value → H) (F : Stop.Interp) :
    ReturnsInHanded {} Tryd.checked os 3 .any ((OpenSpec.ofChange Rows.routeParsesSpec).preRow enc Tryd.prog Tryd.f3 Rows.routeParsesRow.domain false Rows.routeParsesRow.laid) (((OpenSpec.ofChange Rows.routeParsesSpec).at F).post enc Tryd.prog Tryd.f3 false true false false) := by
  obtain ⟨places, hx⟩ := RouteParses_reads os enc
  refine returnsInHanded_of_row (C := Tryd.checked) (s := OpenSpec.ofChange Rows.routeParsesSpec) own started (by kernel_rfl) Tryd.func3
    (witness_row_at (enc := enc) (C := Tryd.checked) false (laidWorld os) #[.string ByteArray.empty] rfl (by kernel_rfl) (by kernel_rfl) (by kernel_rfl)
      (OpenSpec.preRow_of_cond 8 hx (by kernel_rfl) (fun k hk => by cases hk) (by kernel_rfl) (laid_met os #[.string ByteArray.empty]))) ?_
  intro W base args ds gs before hval hW _ _ _ hL hsh _
  exact RouteParses_contract H enc W base args ds gs before hval hW hsh

theorem RouteParses_said : Rows.RouteParsesSaid :=
  OpenClaim.holds_of_cond 3 Tryd.f3 rfl rfl rfl rfl rfl rfl rfl ⟨rfl, rfl, rfl, rfl, rfl⟩ rfl rfl rfl rfl rfl (by kernel_rfl) Tryd.func3 (by kernel_rfl)
    (of_decide_eq_true (by kernel_rfl)) (by unfold Func.isWrapper; first | (rw [if_pos (by decide +kernel)]; kernel_rfl) | (rw [if_neg (by decide +kernel)]; exact ⟨rfl, rfl⟩))
    (fun os started H enc _ F => by rw [OpenClaim.pre_eq_preRow]; exact RouteParses_lifted os started H enc F)

theorem RouteParses_plain (f : FuncId) (fn : Func) (hf : Tryd.pinned.checked.prog.funcNamed Rows.routeParsesRow.func = some f) (hfn : Tryd.pinned.checked.prog.funcs[f]? = some fn) :
    false = Tryd.pinned.checked.prog.looks [] ∧ ∀ (j : Nat) t, fn.params[j]? = some t → Tryd.pinned.checked.prog.wantsStandIn t = false := by
  obtain rfl : f = 3 := Option.some.inj ((show Tryd.prog.funcNamed Rows.routeParsesRow.func = some 3 by kernel_rfl).symm.trans hf) |>.symm
  obtain rfl : fn = Tryd.f3 := (Option.some.inj (Tryd.func3.symm.trans hfn)).symm
  refine ⟨by kernel_rfl, fun j t ht => ?_⟩
  rw [Tryd.params3] at ht
  have hm := Array.mem_of_getElem? ht
  simp only [List.mem_toArray, List.mem_cons, List.not_mem_nil, or_false] at hm
  subst hm
  exact (show Tryd.prog.wantsStandIn 9 = false by kernel_rfl)

theorem RouteParses_proved : Rows.RouteParsesCardSaid :=
  Claim7.holds_tied_plain_at .later [] _ _ _ _ RouteParses_said (fun _ h => by cases h) (by kernel_rfl) (fun _ h => by cases h) routeParses_row_tie rfl ⟨rfl, rfl⟩ (by kernel_rfl) rfl RouteParses_plain (by kernel_rfl)

end Go.Proofs.YtgfgjkafkdfjpaaDoor
