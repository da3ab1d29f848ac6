/- For every text, WildmatLists returns true: ParseList accepts exactly the lists, with the reference's errors and offsets, and keeps the text. No condition. -/
import Derived.Test.YtmiieifcefgedaaDoorWmG
import Derived.Test.YtmiieifcefgedaaDoorWmQA
namespace Go.Proofs.YtmiieifcefgedaaDoor
set_option linter.unusedSimpArgs false
set_option linter.unusedVariables false
open Go.ChangeShapes Go.WideShapes Go.ChangeAt Go.RowKit
open Go.ChangeMaps (open_string shut_string)

theorem RListV.yes {w : World} {es : List Ent} {n : Nat} {v : Value} (h : RListV w (es, n, 0) v) : RList w es v := by
  rcases h with ⟨_, h⟩ | ⟨h0, _⟩
  · exact h
  · exact absurd rfl h0
theorem RListV.no {w : World} {es : List Ent} {n : Nat} {k : Int} {v : Value} (h : RListV w (es, n, k) v) (hk : k ≠ 0) : v = .slice none 0 0 := by
  rcases h with ⟨h0, _⟩ | ⟨_, h⟩
  · exact absurd h0 hk
  · exact h
set_option maxHeartbeats 4000000 in
set_option maxRecDepth 100000 in
theorem WildmatLists_walk (a : ByteArray) (ha : a.size ≤ maxLen) (w : World) (hsh : w.ShapedOpen Tryd.prog) :
    Calls Tryd.prog 10 #[.string a] w fun e w' => e = .returned (.bool true) ∧ Below w.heap.size w w' := by
  have HSH := Lib.hid hsh; clear hsh
  have HC1 := Lib.hid (fun N (hN : N = ((800 : Nat) : Int)) wx => law_cut' a 800 N hN wx ha (by omega))
  have hx := cutB_size a 800
  clear ha
  generalize cutB a 800 = x at *
  go_enter Tryd.func10, Tryd.ntmps10
  go_wp2_with fail
  (with_reducible refine (HC1.out 800 rfl _).mono ?_)
  rintro e w' ⟨rfl, rfl⟩
  go_wp2_with fail
  (with_reducible refine (wm_parseList x _ HSH.out (by omega)).mono ?_)
  rintro e w1 ⟨v, rfl, hv, hb1⟩
  have hw1 := hb1
  rcases hcf : listF (toL x) with ⟨ps, n1, e1⟩
  have HCF := Lib.hid hcf
  rw [hcf] at hv
  clear hcf hb1 HC1
  have hw1s := hw1.size
  go_wp2_with fail
  (with_reducible refine (rf_parseList x _ (by omega)).mono ?_)
  rintro e w2 ⟨u, rfl, hu, hb2⟩
  rw [HCF.out] at hu ⊢
  have hw2 := hw1.trans (hb2.mono hw1s)
  have HKN := Lib.hid (law_known _ (shaped_below HSH.out hw2))
  clear HSH hw1 hw1s
  simp only
  by_cases h1 : e1 = 0
  · subst h1
    obtain ⟨b1, rfl, hp⟩ := hv.yes
    obtain ⟨A, c, l, rfl, _⟩ := hu.yes
    have HP := Lib.hid (hp.below hb2)
    clear hp hb2 hu
    go_wp2_with fail
    (with_reducible refine HKN.out.mono ?_)
    rintro e w3 ⟨rfl, hb3⟩
    have hw3 := hw2.trans (hb3.mono hw2.size)
    have HP3 := Lib.hid (HP.out.below hb3)
    clear hb3 hw2 HP HKN
    go_wp2_with fail
    (with_reducible refine (lst_string b1 _ ps w3 HP3.out).mono ?_)
    rintro e w' ⟨rfl, rfl⟩
    go_wp2_with fail
    (with_reducible refine (lst_len b1 _ ps w3 HP3.out).mono ?_)
    rintro e w' ⟨rfl, rfl⟩
    go_wp2_with fail
    go_ret
    exact ⟨rfl, hw3⟩
  · obtain rfl := hv.no h1
    have g1 : (e1 == 0) = false := beq_eq_false_iff_ne.2 h1
    have g2 : (e1 != 0) = true := by simp [bne, g1]
    clear h1 hb2 hu
    go_wp2_with fail
    (with_reducible refine HKN.out.mono ?_)
    rintro e w3 ⟨rfl, hb3⟩
    have hw3 := hw2.trans (hb3.mono hw2.size)
    clear hb3 hw2 HKN
    go_wp2_with fail
    go_ret
    exact ⟨rfl, hw3⟩

set_option maxRecDepth 100000 in
theorem WildmatLists_contract (H : Type) (enc : TypeId × Value → H) (W : World) (base : Nat) (args : Array Value) (ds gs : List (DataW H)) (before : List MemPlace)
    (hval0 : ∀ (j : Nat) t v, Tryd.f10.params[j]? = some t → args[j]? = some v → Value.okWide Tryd.prog W .any base t v)
    (hW : DataW.Whole enc Tryd.prog Tryd.f10.params.toList Rows.wildmatListsSpec.vars false W args.toList ds gs before) (hsh : W.ShapedOpen Tryd.prog) :
    Calls Tryd.prog 10 args W fun e W' => ∃ v, e = .returned v ∧ Rows.wildmatListsSpec.post enc Tryd.prog Tryd.f10 false true false false W args v W' := by
  have hval : ∀ (j : Nat) t v, Tryd.f10.params[j]? = some t → args[j]? = some v → Value.okWide Tryd.prog W .any base t v := hval0
  have hW' := hW
  obtain ⟨p, q, hA0, hV, rfl, hfz, hnd⟩ := hW
  have hA : DataW.TrodAll enc Tryd.prog W 0 (fun _ => true) true Tryd.f10.params.toList args.toList ds p := hA0
  rw [Tryd.params10] at hA hval
  obtain ⟨v0, vs0, d0, ds0, p0, q0, hargs, rfl, rfl, h0, r0⟩ := trodAll_cons hA
  obtain ⟨rfl, rfl, rfl⟩ := trodAll_nil r0
  obtain rfl : args = #[v0] := by cases args; simp_all
  obtain ⟨rfl, rfl⟩ := trodVars_none hV
  obtain ⟨a0, rfl, rfl, rfl, w0⟩ := open_string Tryd.underlying9 (hval 0 9 v0 rfl rfl) h0
  refine (WildmatLists_walk a0 w0 W hsh).mono fun e W' ⟨he, hg⟩ => ?_
  subst he
  exact ⟨_, rfl, law_post hW' rfl rfl rfl (by decide +kernel) hg⟩

theorem WildmatLists_reads (os : Os) {H : Type} (enc : TypeId × Value → H) : ∃ places, DataW.whole enc Tryd.prog ((laidWorld os).forCall (fun _ _ => 0) ⟨#[], #[.string ByteArray.empty], []⟩).memory Tryd.f10.params.toList Rows.wildmatListsSpec.vars false ((#[.string ByteArray.empty] : Array Value)).toList 8 = some ([.lit (.string [])], [], places) :=
  ⟨[], by kernel_rfl⟩

set_option maxRecDepth 100000 in
theorem WildmatLists_lifted (os : Os) (started : os.Started) (H : Type) (enc : TypeId × Value → H) (F : Stop.Interp) :
    ReturnsInHanded {} Tryd.checked os 10 .any ((OpenSpec.ofChange Rows.wildmatListsSpec).preRow enc Tryd.prog Tryd.f10 Rows.wildmatListsRow.domain false Rows.wildmatListsRow.laid) (((OpenSpec.ofChange Rows.wildmatListsSpec).at F).post enc Tryd.prog Tryd.f10 false true false false) := by
  obtain ⟨places, hx⟩ := WildmatLists_reads os enc
  refine returnsInHanded_of_row (C := Tryd.checked) (s := OpenSpec.ofChange Rows.wildmatListsSpec) own started (by kernel_rfl) Tryd.func10
    (witness_row_at (enc := enc) (C := Tryd.checked) false (laidWorld os) #[.string ByteArray.empty] rfl (by kernel_rfl) (by kernel_rfl) (by kernel_rfl)
      (OpenSpec.preRow_of_cond 8 hx (by kernel_rfl) (fun k hk => by cases hk) (by kernel_rfl) (laid_met os #[.string ByteArray.empty]))) ?_
  intro W base args ds gs before hval hW _ _ _ hL hsh _
  exact WildmatLists_contract H enc W base args ds gs before hval hW hsh

theorem WildmatLists_said : Rows.WildmatListsSaid :=
  OpenClaim.holds_of_cond 10 Tryd.f10 rfl rfl rfl rfl rfl rfl rfl ⟨rfl, rfl, rfl, rfl, rfl⟩ rfl rfl rfl rfl rfl (by kernel_rfl) Tryd.func10 (by kernel_rfl)
    (of_decide_eq_true (by kernel_rfl)) (by unfold Func.isWrapper; first | (rw [if_pos (by decide +kernel)]; kernel_rfl) | (rw [if_neg (by decide +kernel)]; exact ⟨rfl, rfl⟩))
    (fun os started H enc _ F => by rw [OpenClaim.pre_eq_preRow]; exact WildmatLists_lifted os started H enc F)

theorem WildmatLists_plain (f : FuncId) (fn : Func) (hf : Tryd.pinned.checked.prog.funcNamed Rows.wildmatListsRow.func = some f) (hfn : Tryd.pinned.checked.prog.funcs[f]? = some fn) :
    true = Tryd.pinned.checked.prog.looks [] ∧ ∀ (j : Nat) t, fn.params[j]? = some t → Tryd.pinned.checked.prog.wantsStandIn t = false := by
  obtain rfl : f = 10 := Option.some.inj ((show Tryd.prog.funcNamed Rows.wildmatListsRow.func = some 10 by kernel_rfl).symm.trans hf) |>.symm
  obtain rfl : fn = Tryd.f10 := (Option.some.inj (Tryd.func10.symm.trans hfn)).symm
  refine ⟨by kernel_rfl, fun j t ht => ?_⟩
  rw [Tryd.params10] at ht
  have hm := Array.mem_of_getElem? ht
  simp only [List.mem_toArray, List.mem_cons, List.not_mem_nil, or_false] at hm
  subst hm
  exact (show Tryd.prog.wantsStandIn 9 = false by kernel_rfl)

theorem WildmatLists_proved : Rows.WildmatListsCardSaid :=
  Claim7.holds_tied_plain_at .later [] _ _ _ _ WildmatLists_said (fun _ h => by cases h) (by kernel_rfl) (fun _ h => by cases h) wildmatLists_row_tie rfl ⟨rfl, rfl⟩ (by kernel_rfl) rfl WildmatLists_plain (by kernel_rfl)
end Go.Proofs.YtmiieifcefgedaaDoor
