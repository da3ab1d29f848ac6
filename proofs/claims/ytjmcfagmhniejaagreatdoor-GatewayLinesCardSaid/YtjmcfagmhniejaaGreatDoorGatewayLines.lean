/- For every line, GatewayLines returns true: the chapter's examples hold, Check and PrintLine agree with the model on the line with at most 40 bytes of a nickname and 450 of a text, and ParseLine is the inverse of PrintLine. No condition. -/
import Derived.Test.YtjmcfagmhniejaaGreatDoorPt23
import Derived.Test.YtjmcfagmhniejaaGreatDoorPt30
import Derived.Lib.SmallJoins
namespace Go.Proofs.YtjmcfagmhniejaaGreatDoor
set_option linter.unusedSimpArgs false
set_option linter.unusedVariables false
open Go.ChangeShapes Go.WideShapes Go.ChangeAt Go.RowKit
open Go.ChangeMaps (open_string shut_string)

set_option maxRecDepth 100000 in
theorem GatewayLines_contract (H : Type) (enc : TypeId × Value → H) (W : World) (base : Nat) (args : Array Value) (ds gs : List (DataW H)) (before : List MemPlace)
    (hval0 : ∀ (j : Nat) t v, Tryz.f3.params[j]? = some t → args[j]? = some v → Value.okWide Tryz.prog W .any base t v)
    (hW : DataW.Whole enc Tryz.prog Tryz.f3.params.toList Rows.gatewayLinesSpec.vars false W args.toList ds gs before) (hsh : W.ShapedOpen Tryz.prog) (htab : TabN W) :
    Calls Tryz.prog 3 args W fun e W' => ∃ v, e = .returned v ∧ Rows.gatewayLinesSpec.post enc Tryz.prog Tryz.f3 false true false false W args v W' := by
  have hval : ∀ (j : Nat) t v, Tryz.f3.params[j]? = some t → args[j]? = some v → Value.okWide Tryz.prog W .any base t v := hval0
  have hW' := hW
  obtain ⟨p, q, hA0, hV, rfl, hfz, hnd⟩ := hW
  have hA : DataW.TrodAll enc Tryz.prog W 0 (fun _ => true) true Tryz.f3.params.toList args.toList ds p := hA0
  rw [Tryz.params3] at hA hval
  obtain ⟨v0, vs0, d0, ds0, p0, q0, hargs, rfl, rfl, h0, r0⟩ := trodAll_cons hA
  obtain ⟨rfl, rfl, rfl⟩ := trodAll_nil r0
  obtain rfl : args = #[v0] := by cases args; simp_all
  obtain ⟨rfl, rfl⟩ := trodVars_none hV
  obtain ⟨x0, y0, z0, xx0, yy0, zz0, m0, rfl, rfl, rfl, hx0, hy0, hz0⟩ := Go.Joins.open_agg3 Tryz.underlying23 (by kernel_rfl) (by kernel_rfl) (hval 0 23 v0 rfl rfl) h0
  obtain ⟨m0, em0, rfl, _⟩ := DataW.trod_int Tryz.underlying3 hx0
  obtain ⟨n0, en0, rfl, wn0⟩ := DataW.trod_string Tryz.underlying9 hy0
  obtain ⟨t0, et0, rfl, wt0⟩ := DataW.trod_string Tryz.underlying9 hz0
  simp at em0 en0 et0
  subst em0 en0 et0
  refine (GatewayLines_walk m0 n0 t0 wn0 wt0 W hsh htab).mono fun e W' ⟨he, hg⟩ => ?_
  subst he
  exact ⟨_, rfl, law_post hW' rfl rfl rfl (by decide +kernel) hg⟩

theorem GatewayLines_reads (os : Os) {H : Type} (enc : TypeId × Value → H) : ∃ places, DataW.whole enc Tryz.prog ((laidWorld os).forCall (fun _ _ => 0) ⟨#[], #[.agg #[.int .i64 0, .string ByteArray.empty, .string ByteArray.empty]], []⟩).memory Tryz.f3.params.toList Rows.gatewayLinesSpec.vars false ((#[.agg #[.int .i64 0, .string ByteArray.empty, .string ByteArray.empty]] : Array Value)).toList 8 = some ([.agg [.lit (.int .i64 0), .lit (.string []), .lit (.string [])]], [], places) :=
  ⟨[], by kernel_rfl⟩

set_option maxRecDepth 100000 in
theorem GatewayLines_lifted (os : Os) (started : os.Started) (H : Type) (enc : TypeId × Value → H) (F : Stop.Interp) :
    ReturnsInHanded {} Tryz.checked os 3 .any ((OpenSpec.ofChange Rows.gatewayLinesSpec).preRow enc Tryz.prog Tryz.f3 Rows.gatewayLinesRow.domain false Rows.gatewayLinesRow.laid) (((OpenSpec.ofChange Rows.gatewayLinesSpec).at F).post enc Tryz.prog Tryz.f3 false true false false) := by
  obtain ⟨places, hx⟩ := GatewayLines_reads os enc
  refine returnsInHanded_of_row (C := Tryz.checked) (s := OpenSpec.ofChange Rows.gatewayLinesSpec) own started (by kernel_rfl) Tryz.func3
    (witness_row_at (enc := enc) (C := Tryz.checked) false (laidWorld os) #[.agg #[.int .i64 0, .string ByteArray.empty, .string ByteArray.empty]] rfl (by kernel_rfl) (by kernel_rfl) (by kernel_rfl)
      (OpenSpec.preRow_of_cond 8 hx (by kernel_rfl) (fun k hk => by cases hk) (by kernel_rfl) (laid_met os #[.agg #[.int .i64 0, .string ByteArray.empty, .string ByteArray.empty]]))) ?_
  intro W base args ds gs before hval hW _ _ _ hL hsh _
  exact GatewayLines_contract H enc W base args ds gs before hval hW hsh (tabN_of_laid hL)

theorem GatewayLines_said : Rows.GatewayLinesSaid :=
  OpenClaim.holds_of_cond 3 Tryz.f3 rfl rfl rfl rfl rfl rfl rfl ⟨rfl, rfl, rfl, rfl, rfl⟩ rfl rfl rfl rfl rfl (by kernel_rfl) Tryz.func3 (by kernel_rfl)
    (of_decide_eq_true (by kernel_rfl)) (by unfold Func.isWrapper; first | (rw [if_pos (by decide +kernel)]; kernel_rfl) | (rw [if_neg (by decide +kernel)]; exact ⟨rfl, rfl⟩))
    (fun os started H enc _ F => by rw [OpenClaim.pre_eq_preRow]; exact GatewayLines_lifted os started H enc F)

theorem GatewayLines_plain (f : FuncId) (fn : Func) (hf : Tryz.pinned.checked.prog.funcNamed Rows.gatewayLinesRow.func = some f) (hfn : Tryz.pinned.checked.prog.funcs[f]? = some fn) :
    false = Tryz.pinned.checked.prog.looks [] ∧ ∀ (j : Nat) t, fn.params[j]? = some t → Tryz.pinned.checked.prog.wantsStandIn t = false := by
  obtain rfl : f = 3 := Option.some.inj ((show Tryz.prog.funcNamed Rows.gatewayLinesRow.func = some 3 by kernel_rfl).symm.trans hf) |>.symm
  obtain rfl : fn = Tryz.f3 := (Option.some.inj (Tryz.func3.symm.trans hfn)).symm
  refine ⟨by kernel_rfl, fun j t ht => ?_⟩
  rw [Tryz.params3] at ht
  have hm := Array.mem_of_getElem? ht
  simp only [List.mem_toArray, List.mem_cons, List.not_mem_nil, or_false] at hm
  subst hm
  exact (show Tryz.prog.wantsStandIn 23 = false by kernel_rfl)

theorem GatewayLines_proved : Rows.GatewayLinesCardSaid :=
  Claim7.holds_tied_plain_at .later [] _ _ _ _ GatewayLines_said (fun _ h => by cases h) (by kernel_rfl) (fun _ h => by cases h) gatewayLines_row_tie rfl ⟨rfl, rfl⟩ (by kernel_rfl) rfl GatewayLines_plain (by kernel_rfl)
end Go.Proofs.YtjmcfagmhniejaaGreatDoor
