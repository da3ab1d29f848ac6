/- For any results, ScoreOrders returns true: the places of those that are not killed, watched ones first, then by score and place. The library's listed tables lie as the card ties them; no other condition. -/
import Derived.Test.YtannhfnpigiggaaGreatDoorSoZ
namespace Go.Proofs.YtannhfnpigiggaaGreatDoor
set_option linter.unusedSimpArgs false
set_option linter.unusedVariables false
open Go.ChangeShapes Go.WideShapes Go.ChangeAt Go.RowKit
open Go.ChangeMaps (open_string shut_string)

theorem ScoreOrders_walk (A : Option Addr) (l : List R4) (c : Nat) {w : World} (hr : Row w A (r4V l)) (hm : l.length ≤ maxLen) (hc : l.length ≤ c) (hnil : A = none → l = [] ∧ c = 0) (_w : World) (hsh : w.ShapedOpen Tryz.prog) (ht : TabN w) :
    Calls Tryz.prog 10 #[.slice A l.length c] w fun e w' => e = .returned (.bool true) ∧ Below w.heap.size w w' := so_law hr hm hc hnil hsh ht
set_option maxRecDepth 100000 in
theorem ScoreOrders_contract (H : Type) (enc : TypeId × Value → H) (W : World) (base : Nat) (args : Array Value) (ds gs : List (DataW H)) (before : List MemPlace)
    (hval0 : ∀ (j : Nat) t v, Tryz.f10.params[j]? = some t → args[j]? = some v → Value.okWide Tryz.prog W .any base t v)
    (hW : DataW.Whole enc Tryz.prog Tryz.f10.params.toList Rows.scoreOrdersSpec.vars false W args.toList ds gs before) (hsh : W.ShapedOpen Tryz.prog) (htab : TabN W) :
    Calls Tryz.prog 10 args W fun e W' => ∃ v, e = .returned v ∧ Rows.scoreOrdersSpec.post enc Tryz.prog Tryz.f10 false true false false W args v W' := by
  have hval : ∀ (j : Nat) t v, Tryz.f10.params[j]? = some t → args[j]? = some v → Value.okWide Tryz.prog W .any base t v := hval0
  have hW' := hW
  obtain ⟨p, q, hA0, hV, rfl, hfz, hnd⟩ := hW
  have hA : DataW.TrodAll enc Tryz.prog W 0 (fun _ => true) true Tryz.f10.params.toList args.toList ds p := hA0
  rw [Tryz.params10] at hA hval
  obtain ⟨v0, vs0, d0, ds0, p0, q0, hargs, rfl, rfl, h0, r0⟩ := trodAll_cons hA
  obtain ⟨rfl, rfl, rfl⟩ := trodAll_nil r0
  obtain rfl : args = #[v0] := by cases args; simp_all
  obtain ⟨rfl, rfl⟩ := trodVars_none hV
  obtain ⟨A0, l0, c0, rfl, hrow0, hlen0, hcap0, hnil0⟩ := open_res (hval 0 69 v0 rfl rfl) h0
  refine (ScoreOrders_walk A0 l0 c0 hrow0 hlen0 hcap0 hnil0 W hsh htab).mono fun e W' ⟨he, hg⟩ => ?_
  subst he
  exact ⟨_, rfl, law_post hW' rfl rfl rfl (by decide +kernel) hg⟩

theorem ScoreOrders_reads (os : Os) {H : Type} (enc : TypeId × Value → H) : ∃ places, DataW.whole enc Tryz.prog ((laidWorld os).forCall (fun _ _ => 0) ⟨#[], #[.slice none 0 0], []⟩).memory Tryz.f10.params.toList Rows.scoreOrdersSpec.vars false ((#[.slice none 0 0] : Array Value)).toList 8 = some ([.nil], [], places) :=
  ⟨[], by kernel_rfl⟩

set_option maxRecDepth 100000 in
theorem ScoreOrders_lifted (os : Os) (started : os.Started) (H : Type) (enc : TypeId × Value → H) (F : Stop.Interp) :
    ReturnsInHanded {} Tryz.checked os 10 .any ((OpenSpec.ofChange Rows.scoreOrdersSpec).preRow enc Tryz.prog Tryz.f10 Rows.scoreOrdersRow.domain false Rows.scoreOrdersRow.laid) (((OpenSpec.ofChange Rows.scoreOrdersSpec).at F).post enc Tryz.prog Tryz.f10 false true false false) := by
  obtain ⟨places, hx⟩ := ScoreOrders_reads os enc
  refine returnsInHanded_of_row (C := Tryz.checked) (s := OpenSpec.ofChange Rows.scoreOrdersSpec) own started (by kernel_rfl) Tryz.func10
    (witness_row_at (enc := enc) (C := Tryz.checked) false (laidWorld os) #[.slice none 0 0] rfl (by kernel_rfl) (by kernel_rfl) (by kernel_rfl)
      (OpenSpec.preRow_of_cond 8 hx (by kernel_rfl) (fun k hk => by cases hk) (by kernel_rfl) (laid_met os #[.slice none 0 0]))) ?_
  intro W base args ds gs before hval hW _ _ _ hL hsh _
  exact ScoreOrders_contract H enc W base args ds gs before hval hW hsh (tabN_of_laid hL)

theorem ScoreOrders_said : Rows.ScoreOrdersSaid :=
  OpenClaim.holds_of_cond 10 Tryz.f10 rfl rfl rfl rfl rfl rfl rfl ⟨rfl, rfl, rfl, rfl, rfl⟩ rfl rfl rfl rfl rfl (by kernel_rfl) Tryz.func10 (by kernel_rfl)
    (of_decide_eq_true (by kernel_rfl)) (by unfold Func.isWrapper; first | (rw [if_pos (by decide +kernel)]; kernel_rfl) | (rw [if_neg (by decide +kernel)]; exact ⟨rfl, rfl⟩))
    (fun os started H enc _ F => by rw [OpenClaim.pre_eq_preRow]; exact ScoreOrders_lifted os started H enc F)

theorem ScoreOrders_plain (f : FuncId) (fn : Func) (hf : Tryz.pinned.checked.prog.funcNamed Rows.scoreOrdersRow.func = some f) (hfn : Tryz.pinned.checked.prog.funcs[f]? = some fn) :
    true = Tryz.pinned.checked.prog.looks [] ∧ ∀ (j : Nat) t, fn.params[j]? = some t → Tryz.pinned.checked.prog.wantsStandIn t = false := by
  obtain rfl : f = 10 := Option.some.inj ((show Tryz.prog.funcNamed Rows.scoreOrdersRow.func = some 10 by kernel_rfl).symm.trans hf) |>.symm
  obtain rfl : fn = Tryz.f10 := (Option.some.inj (Tryz.func10.symm.trans hfn)).symm
  refine ⟨by kernel_rfl, fun j t ht => ?_⟩
  rw [Tryz.params10] at ht
  have hm := Array.mem_of_getElem? ht
  simp only [List.mem_toArray, List.mem_cons, List.not_mem_nil, or_false] at hm
  subst hm
  exact (show Tryz.prog.wantsStandIn 69 = false by kernel_rfl)

theorem ScoreOrders_proved : Rows.ScoreOrdersCardSaid :=
  Claim7.holds_tied_plain_at .later [] _ _ _ _ ScoreOrders_said (fun _ h => by cases h) (by kernel_rfl) (fun _ h => by cases h) scoreOrders_row_tie rfl ⟨rfl, rfl⟩ (by kernel_rfl) rfl ScoreOrders_plain (by kernel_rfl)
end Go.Proofs.YtannhfnpigiggaaGreatDoor
