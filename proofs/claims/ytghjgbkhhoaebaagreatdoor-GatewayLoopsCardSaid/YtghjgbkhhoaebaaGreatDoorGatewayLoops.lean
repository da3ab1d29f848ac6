/- For all operations, every article and every identity, GatewayLoops returns true: what a gateway says is not put into an article when the room repeats it, and what it posts is not said. No condition. -/
import Derived.Test.YtghjgbkhhoaebaaGreatDoorLopW
import Derived.Test.YtghjgbkhhoaebaaGreatDoorPo44
namespace Go.Proofs.YtghjgbkhhoaebaaGreatDoor
set_option linter.unusedSimpArgs false
set_option linter.unusedVariables false
open Go.ChangeShapes Go.WideShapes Go.ChangeAt Go.RowKit
open Go.ChangeMaps (open_string shut_string)

set_option maxRecDepth 100000 in
theorem GatewayLoops_contract (H : Type) (enc : TypeId × Value → H) (W : World) (base : Nat) (args : Array Value) (ds gs : List (DataW H)) (before : List MemPlace)
    (hval0 : ∀ (j : Nat) t v, Tryz.f5.params[j]? = some t → args[j]? = some v → Value.okWide Tryz.prog W .any base t v)
    (hW : DataW.Whole enc Tryz.prog Tryz.f5.params.toList Rows.gatewayLoopsSpec.vars false W args.toList ds gs before) (hsh : W.ShapedOpen Tryz.prog) (htb : TabB W) (htn : TabN W) :
    Calls Tryz.prog 5 args W fun e W' => ∃ v, e = .returned v ∧ Rows.gatewayLoopsSpec.post enc Tryz.prog Tryz.f5 false true false false W args v W' := by
  have hval : ∀ (j : Nat) t v, Tryz.f5.params[j]? = some t → args[j]? = some v → Value.okWide Tryz.prog W .any base t v := hval0
  have hW' := hW
  obtain ⟨p, q, hA0, hV, rfl, hfz, hnd⟩ := hW
  have hA : DataW.TrodAll enc Tryz.prog W 0 (fun _ => true) true Tryz.f5.params.toList args.toList ds p := hA0
  rw [Tryz.params5] at hA hval
  obtain ⟨v0, vs0, d0, ds0, p0, q0, hargs, rfl, rfl, h0, r0⟩ := trodAll_cons hA
  obtain ⟨v1, vs1, d1, ds1, p1, q1, rfl, rfl, rfl, h1, r1⟩ := trodAll_cons r0
  obtain ⟨v2, vs2, d2, ds2, p2, q2, rfl, rfl, rfl, h2, r2⟩ := trodAll_cons r1
  obtain ⟨rfl, rfl, rfl⟩ := trodAll_nil r2
  obtain rfl : args = #[v0, v1, v2] := by cases args; simp_all
  obtain ⟨rfl, rfl⟩ := trodVars_none hV
  obtain ⟨A0, l0, c0, rfl, hrow0, hlen0, hok0⟩ := open_ops (hval 0 42 v0 rfl rfl) h0
  obtain ⟨f1, n1, s1, b1, e1, rfl, wn1, ws1, wb1, we1⟩ := open_post (hval 1 25 v1 rfl rfl) h1
  obtain ⟨f2, rfl⟩ := open_id (hval 2 23 v2 rfl rfl) h2
  refine (GatewayLoops_walk A0 l0 c0 hrow0 hlen0 hok0 f1 n1 s1 b1 e1 wn1 ws1 wb1 f2 (Base.of hsh htb htn)).mono fun e W' ⟨he, hg⟩ => ?_
  subst he
  exact ⟨_, rfl, law_post hW' rfl rfl rfl (by decide +kernel) hg⟩

theorem GatewayLoops_reads (os : Os) {H : Type} (enc : TypeId × Value → H) : ∃ places, DataW.whole enc Tryz.prog ((laidWorld os).forCall (fun _ _ => 0) ⟨#[], #[.slice none 0 0, witP, witI], []⟩).memory Tryz.f5.params.toList Rows.gatewayLoopsSpec.vars false ((#[.slice none 0 0, witP, witI] : Array Value)).toList 8 = some ([.nil, datP, datI], [], places) :=
  ⟨[], by kernel_rfl⟩

set_option maxRecDepth 100000 in
theorem GatewayLoops_lifted (os : Os) (started : os.Started) (H : Type) (enc : TypeId × Value → H) (F : Stop.Interp) :
    ReturnsInHanded {} Tryz.checked os 5 .any ((OpenSpec.ofChange Rows.gatewayLoopsSpec).preRow enc Tryz.prog Tryz.f5 Rows.gatewayLoopsRow.domain false Rows.gatewayLoopsRow.laid) (((OpenSpec.ofChange Rows.gatewayLoopsSpec).at F).post enc Tryz.prog Tryz.f5 false true false false) := by
  obtain ⟨places, hx⟩ := GatewayLoops_reads os enc
  refine returnsInHanded_of_row (C := Tryz.checked) (s := OpenSpec.ofChange Rows.gatewayLoopsSpec) own started (by kernel_rfl) Tryz.func5
    (witness_row_at (enc := enc) (C := Tryz.checked) false (laidWorld os) #[.slice none 0 0, witP, witI] rfl (by kernel_rfl) (by kernel_rfl) (by kernel_rfl)
      (OpenSpec.preRow_of_cond 8 hx (by kernel_rfl) (fun k hk => by cases hk) (by kernel_rfl) (laid_met os #[.slice none 0 0, witP, witI]))) ?_
  intro W base args ds gs before hval hW _ _ _ hL hsh _
  exact GatewayLoops_contract H enc W base args ds gs before hval hW hsh (tabB_of_laid hL) (tabN_of_laid hL)

theorem GatewayLoops_said : Rows.GatewayLoopsSaid :=
  OpenClaim.holds_of_cond 5 Tryz.f5 rfl rfl rfl rfl rfl rfl rfl ⟨rfl, rfl, rfl, rfl, rfl⟩ rfl rfl rfl rfl rfl (by kernel_rfl) Tryz.func5 (by kernel_rfl)
    (of_decide_eq_true (by kernel_rfl)) (by unfold Func.isWrapper; first | (rw [if_pos (by decide +kernel)]; kernel_rfl) | (rw [if_neg (by decide +kernel)]; exact ⟨rfl, rfl⟩))
    (fun os started H enc _ F => by rw [OpenClaim.pre_eq_preRow]; exact GatewayLoops_lifted os started H enc F)

theorem GatewayLoops_plain (f : FuncId) (fn : Func) (hf : Tryz.pinned.checked.prog.funcNamed Rows.gatewayLoopsRow.func = some f) (hfn : Tryz.pinned.checked.prog.funcs[f]? = some fn) :
    true = Tryz.pinned.checked.prog.looks [] ∧ ∀ (j : Nat) t, fn.params[j]? = some t → Tryz.pinned.checked.prog.wantsStandIn t = false := by
  obtain rfl : f = 5 := Option.some.inj ((show Tryz.prog.funcNamed Rows.gatewayLoopsRow.func = some 5 by kernel_rfl).symm.trans hf) |>.symm
  obtain rfl : fn = Tryz.f5 := (Option.some.inj (Tryz.func5.symm.trans hfn)).symm
  refine ⟨by kernel_rfl, fun j t ht => ?_⟩
  rw [Tryz.params5] at ht
  have hm := Array.mem_of_getElem? ht
  simp only [List.mem_toArray, List.mem_cons, List.not_mem_nil, or_false] at hm
  rcases hm with rfl | rfl | rfl
  · exact (show Tryz.prog.wantsStandIn 42 = false by kernel_rfl)
  · exact (show Tryz.prog.wantsStandIn 25 = false by kernel_rfl)
  · exact (show Tryz.prog.wantsStandIn 23 = false by kernel_rfl)

theorem GatewayLoops_proved : Rows.GatewayLoopsCardSaid :=
  Claim7.holds_tied_plain_at .later [] _ _ _ _ GatewayLoops_said (fun _ h => by cases h) (by kernel_rfl) (fun _ h => by cases h) gatewayLoops_row_tie rfl ⟨rfl, rfl⟩ (by kernel_rfl) rfl GatewayLoops_plain (by kernel_rfl)
end Go.Proofs.YtghjgbkhhoaebaaGreatDoor
