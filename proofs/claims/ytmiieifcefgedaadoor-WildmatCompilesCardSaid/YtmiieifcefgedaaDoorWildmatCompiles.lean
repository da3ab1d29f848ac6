/- For every text, WildmatCompiles returns true: Compile accepts exactly the patterns, with the reference's errors and offsets, and keeps the text. No condition. -/
import Derived.Test.YtmiieifcefgedaaDoorWmG
import Derived.Test.YtmiieifcefgedaaDoorWmQ6
namespace Go.Proofs.YtmiieifcefgedaaDoor
set_option linter.unusedSimpArgs false
set_option linter.unusedVariables false
open Go.ChangeShapes Go.WideShapes Go.ChangeAt Go.RowKit
open Go.ChangeMaps (open_string shut_string)

theorem RPatV.shape {w : World} {s : ByteArray} {x : List Em × Nat × Int} {v : Value} (h : RPatV w s x v) : ∃ t A n c, v = .agg #[.string t, .slice A n c] := by
  rcases h with ⟨_, A, c, rfl, _⟩ | ⟨_, rfl⟩ <;> exact ⟨_, _, _, _, rfl⟩
set_option maxHeartbeats 4000000 in
set_option maxRecDepth 100000 in
theorem WildmatCompiles_walk (a : ByteArray) (ha : a.size ≤ maxLen) (w : World) (hsh : w.ShapedOpen Tryd.prog) :
    Calls Tryd.prog 9 #[.string a] w fun e w' => e = .returned (.bool true) ∧ Below w.heap.size w w' := by
  have HSH := Lib.hid hsh; clear hsh
  have HC1 := Lib.hid (fun N (hN : N = ((100 : Nat) : Int)) wx => law_cut' a 100 N hN wx ha (by omega))
  have hx := cutB_size a 100
  clear ha
  generalize cutB a 100 = x at *
  go_enter Tryd.func9, Tryd.ntmps9
  go_wp2_with fail
  (with_reducible refine (HC1.out 100 rfl _).mono ?_)
  rintro e w' ⟨rfl, rfl⟩
  go_wp2_with fail
  (with_reducible refine (wm_compile x _ (by omega)).mono ?_)
  rintro e w1 ⟨v, rfl, hv, hb1⟩
  have hw1 := hb1
  rcases hcf : compF (toL x) with ⟨ps, n1, e1⟩
  have HCF := Lib.hid hcf
  rw [hcf] at hv
  clear hcf hb1 HC1
  have hw1s := hw1.size
  go_wp2_with fail
  (with_reducible refine (rf_compile x _ (by omega)).mono ?_)
  rintro e w2 ⟨u, rfl, hu, hb2⟩
  rw [HCF.out]
  have hw2 := hw1.trans (hb2.mono hw1s)
  obtain ⟨tx, A, nn, cc, rfl⟩ := hu.shape
  have HW3 := Lib.hid (hw2.trans ((alloc_bel w2 (.cells #[.string tx, .slice A nn cc] 29)).mono hw2.size))
  have HKN := Lib.hid (law_known _ (shaped_below HSH.out HW3.out))
  clear HSH hw1 hw1s hw2
  simp only
  by_cases h1 : e1 = 0
  · subst h1
    obtain ⟨b1, rfl, hp⟩ := hv.yes
    have HP := Lib.hid ((hp.below hb2).below (alloc_bel w2 (.cells #[.string tx, .slice A nn cc] 29)))
    clear hp hb2 hu
    go_wp2_with fail
    (with_reducible refine HKN.out.mono ?_)
    rintro e w3 ⟨rfl, hb3⟩
    have hw3 := HW3.out.trans (hb3.mono HW3.out.size)
    have HP3 := Lib.hid (HP.out.below hb3)
    clear hb3 HW3 HP HKN
    go_wp2_with fail
    (with_reducible refine (pat_string b1 _ ps w3 HP3.out.at).mono ?_)
    rintro e w' ⟨rfl, rfl⟩
    go_wp2_with fail
    go_ret
    exact ⟨rfl, hw3⟩
  · obtain rfl := hv.no h1
    have g1 : (e1 == 0) = false := beq_eq_false_iff_ne.2 h1
    have g2 : (e1 != 0) = true := by simp [bne, g1]
    clear h1 hb2 hu
    go_wp2_with fail
    (with_reducible refine HKN.out.mono ?_)
    rintro e w3 ⟨rfl, hb3⟩
    have hw3 := HW3.out.trans (hb3.mono HW3.out.size)
    clear hb3 HW3 HKN
    go_wp2_with fail
    go_ret
    exact ⟨rfl, hw3⟩

set_option maxRecDepth 100000 in
theorem WildmatCompiles_contract (H : Type) (enc : TypeId × Value → H) (W : World) (base : Nat) (args : Array Value) (ds gs : List (DataW H)) (before : List MemPlace)
    (hval0 : ∀ (j : Nat) t v, Tryd.f9.params[j]? = some t → args[j]? = some v → Value.okWide Tryd.prog W .any base t v)
    (hW : DataW.Whole enc Tryd.prog Tryd.f9.params.toList Rows.wildmatCompilesSpec.vars false W args.toList ds gs before) (hsh : W.ShapedOpen Tryd.prog) :
    Calls Tryd.prog 9 args W fun e W' => ∃ v, e = .returned v ∧ Rows.wildmatCompilesSpec.post enc Tryd.prog Tryd.f9 false true false false W args v W' := by
  have hval : ∀ (j : Nat) t v, Tryd.f9.params[j]? = some t → args[j]? = some v → Value.okWide Tryd.prog W .any base t v := hval0
  have hW' := hW
  obtain ⟨p, q, hA0, hV, rfl, hfz, hnd⟩ := hW
  have hA : DataW.TrodAll enc Tryd.prog W 0 (fun _ => true) true Tryd.f9.params.toList args.toList ds p := hA0
  rw [Tryd.params9] at hA hval
  obtain ⟨v0, vs0, d0, ds0, p0, q0, hargs, rfl, rfl, h0, r0⟩ := trodAll_cons hA
  obtain ⟨rfl, rfl, rfl⟩ := trodAll_nil r0
  obtain rfl : args = #[v0] := by cases args; simp_all
  obtain ⟨rfl, rfl⟩ := trodVars_none hV
  obtain ⟨a0, rfl, rfl, rfl, w0⟩ := open_string Tryd.underlying9 (hval 0 9 v0 rfl rfl) h0
  refine (WildmatCompiles_walk a0 w0 W hsh).mono fun e W' ⟨he, hg⟩ => ?_
  subst he
  exact ⟨_, rfl, law_post hW' rfl rfl rfl (by decide +kernel) hg⟩

theorem WildmatCompiles_reads (os : Os) {H : Type} (enc : TypeId × Value → H) : ∃ places, DataW.whole enc Tryd.prog ((laidWorld os).forCall (fun _ _ => 0) ⟨#[], #[.string ByteArray.empty], []⟩).memory Tryd.f9.params.toList Rows.wildmatCompilesSpec.vars false ((#[.string ByteArray.empty] : Array Value)).toList 8 = some ([.lit (.string [])], [], places) :=
  ⟨[], by kernel_rfl⟩

set_option maxRecDepth 100000 in
theorem WildmatCompiles_lifted (os : Os) (started : os.Started) (H : Type) (enc : TypeId × Value → H) (F : Stop.Interp) :
    ReturnsInHanded {} Tryd.checked os 9 .any ((OpenSpec.ofChange Rows.wildmatCompilesSpec).preRow enc Tryd.prog Tryd.f9 Rows.wildmatCompilesRow.domain false Rows.wildmatCompilesRow.laid) (((OpenSpec.ofChange Rows.wildmatCompilesSpec).at F).post enc Tryd.prog Tryd.f9 false true false false) := by
  obtain ⟨places, hx⟩ := WildmatCompiles_reads os enc
  refine returnsInHanded_of_row (C := Tryd.checked) (s := OpenSpec.ofChange Rows.wildmatCompilesSpec) own started (by kernel_rfl) Tryd.func9
    (witness_row_at (enc := enc) (C := Tryd.checked) false (laidWorld os) #[.string ByteArray.empty] rfl (by kernel_rfl) (by kernel_rfl) (by kernel_rfl)
      (OpenSpec.preRow_of_cond 8 hx (by kernel_rfl) (fun k hk => by cases hk) (by kernel_rfl) (laid_met os #[.string ByteArray.empty]))) ?_
  intro W base args ds gs before hval hW _ _ _ hL hsh _
  exact WildmatCompiles_contract H enc W base args ds gs before hval hW hsh

theorem WildmatCompiles_said : Rows.WildmatCompilesSaid :=
  OpenClaim.holds_of_cond 9 Tryd.f9 rfl rfl rfl rfl rfl rfl rfl ⟨rfl, rfl, rfl, rfl, rfl⟩ rfl rfl rfl rfl rfl (by kernel_rfl) Tryd.func9 (by kernel_rfl)
    (of_decide_eq_true (by kernel_rfl)) (by unfold Func.isWrapper; first | (rw [if_pos (by decide +kernel)]; kernel_rfl) | (rw [if_neg (by decide +kernel)]; exact ⟨rfl, rfl⟩))
    (fun os started H enc _ F => by rw [OpenClaim.pre_eq_preRow]; exact WildmatCompiles_lifted os started H enc F)

theorem WildmatCompiles_plain (f : FuncId) (fn : Func) (hf : Tryd.pinned.checked.prog.funcNamed Rows.wildmatCompilesRow.func = some f) (hfn : Tryd.pinned.checked.prog.funcs[f]? = some fn) :
    true = Tryd.pinned.checked.prog.looks [] ∧ ∀ (j : Nat) t, fn.params[j]? = some t → Tryd.pinned.checked.prog.wantsStandIn t = false := by
  obtain rfl : f = 9 := Option.some.inj ((show Tryd.prog.funcNamed Rows.wildmatCompilesRow.func = some 9 by kernel_rfl).symm.trans hf) |>.symm
  obtain rfl : fn = Tryd.f9 := (Option.some.inj (Tryd.func9.symm.trans hfn)).symm
  refine ⟨by kernel_rfl, fun j t ht => ?_⟩
  rw [Tryd.params9] at ht
  have hm := Array.mem_of_getElem? ht
  simp only [List.mem_toArray, List.mem_cons, List.not_mem_nil, or_false] at hm
  subst hm
  exact (show Tryd.prog.wantsStandIn 9 = false by kernel_rfl)

theorem WildmatCompiles_proved : Rows.WildmatCompilesCardSaid :=
  Claim7.holds_tied_plain_at .later [] _ _ _ _ WildmatCompiles_said (fun _ h => by cases h) (by kernel_rfl) (fun _ h => by cases h) wildmatCompiles_row_tie rfl ⟨rfl, rfl⟩ (by kernel_rfl) rfl WildmatCompiles_plain (by kernel_rfl)
end Go.Proofs.YtmiieifcefgedaaDoor
