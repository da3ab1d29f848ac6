/- For every text, GatewayBodies returns true: the chapter's examples hold, and Lines returns the lines of the first 3000 bytes, or the offset and the kind of the first error, as the model does. No condition. -/
import Derived.Test.YtjmcfagmhniejaaGreatDoorPt20
import Derived.Test.YtjmcfagmhniejaaGreatDoorPt30
namespace Go.Proofs.YtjmcfagmhniejaaGreatDoor
set_option linter.unusedSimpArgs false
set_option linter.unusedVariables false
open Go.ChangeShapes Go.WideShapes Go.ChangeAt Go.RowKit
open Go.ChangeMaps (open_string shut_string)

set_option maxHeartbeats 4000000 in
set_option maxRecDepth 100000 in
theorem GatewayBodies_walk (a : ByteArray) (ha : a.size ≤ maxLen) (w : World) (hsh : w.ShapedOpen Tryz.prog) (htab : TabN w) :
    Calls Tryz.prog 5 #[.string a] w fun e w' => e = .returned (.bool true) ∧ Below w.heap.size w w' := by
  have HKN := Lib.hid (fun wx (hb : Below w.heap.size w wx) => gw_known wx (shaped_below hsh hb) (htab.below hb))
  have HS1 := Lib.hid (fun wx => lw_short a ha 3000 3000 rfl wx (by omega))
  have hx := short_size a 3000
  clear ha
  generalize a.extract 0 (min a.size 3000) = X at *
  have HGL := Lib.hid (gw_lines X w hsh (by omega))
  have HLL := Lib.hid (fun wx => lw_lines X wx (by omega))
  unfold LinPost at HGL HLL
  have hle := linF_len (toL X)
  rw [toL_length] at hle
  generalize linF (toL X) = R at *
  obtain ⟨ls, at_, er⟩ := R
  simp only at HGL HLL hle
  clear hsh htab
  go_enter Tryz.func5, Tryz.ntmps5
  go_wp2_with (first
    | (go_at_call 13; (with_reducible refine (HS1.out _).mono ?_); rintro e w' ⟨rfl, rfl⟩)
    | (go_at_call 15; (with_reducible refine HGL.out.mono ?_); rintro e w1 ⟨v1, rfl, ho1⟩; obtain ⟨A1, c1, rfl, hr1⟩ := own_row ho1.own; have HR1 := Lib.hid hr1; have hb1 := ho1.bel; clear hr1 ho1)
    | (go_at_call 16; (with_reducible refine (HLL.out _).mono ?_); rintro e w2 ⟨v2, rfl, ho2⟩; obtain ⟨A2, c2, rfl, hr2⟩ := own_row ho2.own; have HR2 := Lib.hid hr2; have hb2 := ho2.bel; clear hr2 ho2)
    | (go_at_call 9; (with_reducible refine (HKN.out _ (hb1.trans (hb2.mono hb1.size))).mono ?_); rintro e w3 ⟨rfl, hb3⟩)
    | (go_at_call 17; (with_reducible refine (lw_same A1 A2 ls c1 c2 _ (HR1.out.below (hb2.trans (hb3.mono hb2.size))) (HR2.out.below hb3) (by omega)).mono ?_); rintro e w4 ⟨rfl, hb4⟩))
  go_ret
  exact ⟨rfl, (hb1.trans (hb2.mono hb1.size)).trans ((hb3.trans (hb4.mono hb3.size)).mono (Nat.le_trans hb1.size hb2.size))⟩
set_option maxRecDepth 100000 in
theorem GatewayBodies_contract (H : Type) (enc : TypeId × Value → H) (W : World) (base : Nat) (args : Array Value) (ds gs : List (DataW H)) (before : List MemPlace)
    (hval0 : ∀ (j : Nat) t v, Tryz.f5.params[j]? = some t → args[j]? = some v → Value.okWide Tryz.prog W .any base t v)
    (hW : DataW.Whole enc Tryz.prog Tryz.f5.params.toList Rows.gatewayBodiesSpec.vars false W args.toList ds gs before) (hsh : W.ShapedOpen Tryz.prog) (htab : TabN W) :
    Calls Tryz.prog 5 args W fun e W' => ∃ v, e = .returned v ∧ Rows.gatewayBodiesSpec.post enc Tryz.prog Tryz.f5 false true false false W args v W' := by
  have hval : ∀ (j : Nat) t v, Tryz.f5.params[j]? = some t → args[j]? = some v → Value.okWide Tryz.prog W .any base t v := hval0
  have hW' := hW
  obtain ⟨p, q, hA0, hV, rfl, hfz, hnd⟩ := hW
  have hA : DataW.TrodAll enc Tryz.prog W 0 (fun _ => true) true Tryz.f5.params.toList args.toList ds p := hA0
  rw [Tryz.params5] at hA hval
  obtain ⟨v0, vs0, d0, ds0, p0, q0, hargs, rfl, rfl, h0, r0⟩ := trodAll_cons hA
  obtain ⟨rfl, rfl, rfl⟩ := trodAll_nil r0
  obtain rfl : args = #[v0] := by cases args; simp_all
  obtain ⟨rfl, rfl⟩ := trodVars_none hV
  obtain ⟨a0, rfl, rfl, rfl, w0⟩ := open_string Tryz.underlying9 (hval 0 9 v0 rfl rfl) h0
  refine (GatewayBodies_walk a0 w0 W hsh htab).mono fun e W' ⟨he, hg⟩ => ?_
  subst he
  exact ⟨_, rfl, law_post hW' rfl rfl rfl (by decide +kernel) hg⟩

theorem GatewayBodies_reads (os : Os) {H : Type} (enc : TypeId × Value → H) : ∃ places, DataW.whole enc Tryz.prog ((laidWorld os).forCall (fun _ _ => 0) ⟨#[], #[.string ByteArray.empty], []⟩).memory Tryz.f5.params.toList Rows.gatewayBodiesSpec.vars false ((#[.string ByteArray.empty] : Array Value)).toList 8 = some ([.lit (.string [])], [], places) :=
  ⟨[], by kernel_rfl⟩

set_option maxRecDepth 100000 in
theorem GatewayBodies_lifted (os : Os) (started : os.Started) (H : Type) (enc : TypeId × Value → H) (F : Stop.Interp) :
    ReturnsInHanded {} Tryz.checked os 5 .any ((OpenSpec.ofChange Rows.gatewayBodiesSpec).preRow enc Tryz.prog Tryz.f5 Rows.gatewayBodiesRow.domain false Rows.gatewayBodiesRow.laid) (((OpenSpec.ofChange Rows.gatewayBodiesSpec).at F).post enc Tryz.prog Tryz.f5 false true false false) := by
  obtain ⟨places, hx⟩ := GatewayBodies_reads os enc
  refine returnsInHanded_of_row (C := Tryz.checked) (s := OpenSpec.ofChange Rows.gatewayBodiesSpec) own started (by kernel_rfl) Tryz.func5
    (witness_row_at (enc := enc) (C := Tryz.checked) false (laidWorld os) #[.string ByteArray.empty] rfl (by kernel_rfl) (by kernel_rfl) (by kernel_rfl)
      (OpenSpec.preRow_of_cond 8 hx (by kernel_rfl) (fun k hk => by cases hk) (by kernel_rfl) (laid_met os #[.string ByteArray.empty]))) ?_
  intro W base args ds gs before hval hW _ _ _ hL hsh _
  exact GatewayBodies_contract H enc W base args ds gs before hval hW hsh (tabN_of_laid hL)

theorem GatewayBodies_said : Rows.GatewayBodiesSaid :=
  OpenClaim.holds_of_cond 5 Tryz.f5 rfl rfl rfl rfl rfl rfl rfl ⟨rfl, rfl, rfl, rfl, rfl⟩ rfl rfl rfl rfl rfl (by kernel_rfl) Tryz.func5 (by kernel_rfl)
    (of_decide_eq_true (by kernel_rfl)) (by unfold Func.isWrapper; first | (rw [if_pos (by decide +kernel)]; kernel_rfl) | (rw [if_neg (by decide +kernel)]; exact ⟨rfl, rfl⟩))
    (fun os started H enc _ F => by rw [OpenClaim.pre_eq_preRow]; exact GatewayBodies_lifted os started H enc F)

theorem GatewayBodies_plain (f : FuncId) (fn : Func) (hf : Tryz.pinned.checked.prog.funcNamed Rows.gatewayBodiesRow.func = some f) (hfn : Tryz.pinned.checked.prog.funcs[f]? = some fn) :
    false = Tryz.pinned.checked.prog.looks [] ∧ ∀ (j : Nat) t, fn.params[j]? = some t → Tryz.pinned.checked.prog.wantsStandIn t = false := by
  obtain rfl : f = 5 := Option.some.inj ((show Tryz.prog.funcNamed Rows.gatewayBodiesRow.func = some 5 by kernel_rfl).symm.trans hf) |>.symm
  obtain rfl : fn = Tryz.f5 := (Option.some.inj (Tryz.func5.symm.trans hfn)).symm
  refine ⟨by kernel_rfl, fun j t ht => ?_⟩
  rw [Tryz.params5] at ht
  have hm := Array.mem_of_getElem? ht
  simp only [List.mem_toArray, List.mem_cons, List.not_mem_nil, or_false] at hm
  subst hm
  exact (show Tryz.prog.wantsStandIn 9 = false by kernel_rfl)

theorem GatewayBodies_proved : Rows.GatewayBodiesCardSaid :=
  Claim7.holds_tied_plain_at .later [] _ _ _ _ GatewayBodies_said (fun _ h => by cases h) (by kernel_rfl) (fun _ h => by cases h) gatewayBodies_row_tie rfl ⟨rfl, rfl⟩ (by kernel_rfl) rfl GatewayBodies_plain (by kernel_rfl)
end Go.Proofs.YtjmcfagmhniejaaGreatDoor
