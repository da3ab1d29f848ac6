/- For every two texts, WildmatVerdicts returns true: Verdict agrees with the reference. No condition. -/
import Derived.Test.YtmiieifcefgedaaDoorWmG
import Derived.Test.YtmiieifcefgedaaDoorWmQA
namespace Go.Proofs.YtmiieifcefgedaaDoor
set_option linter.unusedSimpArgs false
set_option linter.unusedVariables false
open Go.ChangeShapes Go.WideShapes Go.ChangeAt Go.RowKit
open Go.ChangeMaps (open_string shut_string)

theorem RListV.yes {w : World} {es : List Ent} {n : Nat} {v : Value} (h : RListV w (es, n, 0) v) : RList w es v := by
  rcases h with ⟨_, h⟩ | ⟨h0, _⟩
  · exact h
  · exact absurd rfl h0
theorem RListV.no {w : World} {es : List Ent} {n : Nat} {k : Int} {v : Value} (h : RListV w (es, n, k) v) (hk : k ≠ 0) : v = .slice none 0 0 := by
  rcases h with ⟨h0, _⟩ | ⟨_, h⟩
  · exact absurd h0 hk
  · exact h
set_option maxHeartbeats 4000000 in
set_option maxRecDepth 100000 in
theorem WildmatVerdicts_walk (a : ByteArray) (ha : a.size ≤ maxLen) (b : ByteArray) (hb : b.size ≤ maxLen) (w : World) (hsh : w.ShapedOpen Tryd.prog) :
    Calls Tryd.prog 7 #[.string a, .string b] w fun e w' => e = .returned (.bool true) ∧ Below w.heap.size w w' := by
  have HSH := Lib.hid hsh; clear hsh
  have HC1 := Lib.hid (fun N (hN : N = ((800 : Nat) : Int)) wx => law_cut' a 800 N hN wx ha (by omega))
  have HC2 := Lib.hid (fun N (hN : N = ((100 : Nat) : Int)) wx => law_cut' b 100 N hN wx hb (by omega))
  have hx := cutB_size a 800
  have hy := cutB_size b 100
  clear ha hb
  generalize cutB a 800 = x at *
  generalize cutB b 100 = y at *
  go_enter Tryd.func7, Tryd.ntmps7
  go_wp2_with fail
  (with_reducible refine (HC1.out 800 rfl _).mono ?_)
  rintro e w' ⟨rfl, rfl⟩
  go_wp2_with fail
  (with_reducible refine (HC2.out 100 rfl _).mono ?_)
  rintro e w' ⟨rfl, rfl⟩
  go_wp2_with fail
  (with_reducible refine (wm_parseList x _ HSH.out (by omega)).mono ?_)
  rintro e w1 ⟨v, rfl, hv, hb1⟩
  have hw1 := hb1
  have HO := Lib.hid (listF_ok (toL x))
  rcases hcf : listF (toL x) with ⟨ps, n1, e1⟩
  have HCF := Lib.hid hcf
  rw [hcf] at hv HO
  clear hcf hb1 HC1 HC2
  have hw1s := hw1.size
  have hl64 := HO.out.2.1
  simp only at hl64
  go_wp2_with fail
  (with_reducible refine (rf_parseList x _ (by omega)).mono ?_)
  rintro e w2 ⟨u, rfl, hu, hb2⟩
  rw [HCF.out] at hu ⊢
  have hw2 := hw1.trans (hb2.mono hw1s)
  have HKN := Lib.hid (law_known _ (shaped_below HSH.out hw2))
  clear HSH hw1 hw1s
  simp only
  by_cases h1 : e1 = 0
  · subst h1
    obtain ⟨b1, rfl, hp⟩ := hv.yes
    have HP := Lib.hid (hp.below hb2)
    have HU := Lib.hid hu.yes
    clear hp hb2 hu
    go_wp2_with fail
    (with_reducible refine HKN.out.mono ?_)
    rintro e w3 ⟨rfl, hb3⟩
    have hw3 := hw2.trans (hb3.mono hw2.size)
    have HP3 := Lib.hid (HP.out.below hb3)
    have HU3 := Lib.hid (HU.out.below hb3)
    clear hb3 hw2 HP HKN HU
    go_wp2_with fail
    (with_reducible refine (lst_verdict b1 _ ps y w3 HP3.out HO.out.1 (by omega) (by omega)).mono ?_)
    rintro e w4 ⟨rfl, hb4⟩
    have hw4 := hw3.trans (hb4.mono hw3.size)
    have HU4 := Lib.hid (HU3.out.below hb4)
    clear hb4 hw3 HP3 HU3
    go_wp2_with fail
    (with_reducible refine (rf_verdict u ps y w4 HU4.out HO.out.1 (by omega) (by omega)).mono ?_)
    rintro e w5 ⟨rfl, hb5⟩
    have hw5 := hw4.trans (hb5.mono hw4.size)
    clear hb5 hw4
    generalize verdictF ps (toL y) = vd at *
    go_wp2_with fail
    go_ret
    exact ⟨rfl, hw5⟩
  · obtain rfl := hv.no h1
    have g1 : (e1 == 0) = false := beq_eq_false_iff_ne.2 h1
    have g2 : (e1 != 0) = true := by simp [bne, g1]
    clear h1 hb2 hu
    go_wp2_with fail
    (with_reducible refine HKN.out.mono ?_)
    rintro e w3 ⟨rfl, hb3⟩
    have hw3 := hw2.trans (hb3.mono hw2.size)
    clear hb3 hw2 HKN
    go_wp2_with fail
    go_ret
    exact ⟨rfl, hw3⟩

set_option maxRecDepth 100000 in
theorem WildmatVerdicts_contract (H : Type) (enc : TypeId × Value → H) (W : World) (base : Nat) (args : Array Value) (ds gs : List (DataW H)) (before : List MemPlace)
    (hval0 : ∀ (j : Nat) t v, Tryd.f7.params[j]? = some t → args[j]? = some v → Value.okWide Tryd.prog W .any base t v)
    (hW : DataW.Whole enc Tryd.prog Tryd.f7.params.toList Rows.wildmatVerdictsSpec.vars false W args.toList ds gs before) (hsh : W.ShapedOpen Tryd.prog) :
    Calls Tryd.prog 7 args W fun e W' => ∃ v, e = .returned v ∧ Rows.wildmatVerdictsSpec.post enc Tryd.prog Tryd.f7 false true false false W args v W' := by
  have hval : ∀ (j : Nat) t v, Tryd.f7.params[j]? = some t → args[j]? = some v → Value.okWide Tryd.prog W .any base t v := hval0
  have hW' := hW
  obtain ⟨p, q, hA0, hV, rfl, hfz, hnd⟩ := hW
  have hA : DataW.TrodAll enc Tryd.prog W 0 (fun _ => true) true Tryd.f7.params.toList args.toList ds p := hA0
  rw [Tryd.params7] at hA hval
  obtain ⟨v0, vs0, d0, ds0, p0, q0, hargs, rfl, rfl, h0, r0⟩ := trodAll_cons hA
  obtain ⟨v1, vs1, d1, ds1, p1, q1, rfl, rfl, rfl, h1, r1⟩ := trodAll_cons r0
  obtain ⟨rfl, rfl, rfl⟩ := trodAll_nil r1
  obtain rfl : args = #[v0, v1] := by cases args; simp_all
  obtain ⟨rfl, rfl⟩ := trodVars_none hV
  obtain ⟨a0, rfl, rfl, rfl, w0⟩ := open_string Tryd.underlying9 (hval 0 9 v0 rfl rfl) h0
  obtain ⟨a1, rfl, rfl, rfl, w1⟩ := open_string Tryd.underlying9 (hval 1 9 v1 rfl rfl) h1
  refine (WildmatVerdicts_walk a0 w0 a1 w1 W hsh).mono fun e W' ⟨he, hg⟩ => ?_
  subst he
  exact ⟨_, rfl, law_post hW' rfl rfl rfl (by decide +kernel) hg⟩

theorem WildmatVerdicts_reads (os : Os) {H : Type} (enc : TypeId × Value → H) : ∃ places, DataW.whole enc Tryd.prog ((laidWorld os).forCall (fun _ _ => 0) ⟨#[], #[.string ByteArray.empty, .string ByteArray.empty], []⟩).memory Tryd.f7.params.toList Rows.wildmatVerdictsSpec.vars false ((#[.string ByteArray.empty, .string ByteArray.empty] : Array Value)).toList 8 = some ([.lit (.string []), .lit (.string [])], [], places) :=
  ⟨[], by kernel_rfl⟩

set_option maxRecDepth 100000 in
theorem WildmatVerdicts_lifted (os : Os) (started : os.Started) (H : Type) (enc : TypeId × Value → H) (F : Stop.Interp) :
    ReturnsInHanded {} Tryd.checked os 7 .any ((OpenSpec.ofChange Rows.wildmatVerdictsSpec).preRow enc Tryd.prog Tryd.f7 Rows.wildmatVerdictsRow.domain false Rows.wildmatVerdictsRow.laid) (((OpenSpec.ofChange Rows.wildmatVerdictsSpec).at F).post enc Tryd.prog Tryd.f7 false true false false) := by
  obtain ⟨places, hx⟩ := WildmatVerdicts_reads os enc
  refine returnsInHanded_of_row (C := Tryd.checked) (s := OpenSpec.ofChange Rows.wildmatVerdictsSpec) own started (by kernel_rfl) Tryd.func7
    (witness_row_at (enc := enc) (C := Tryd.checked) false (laidWorld os) #[.string ByteArray.empty, .string ByteArray.empty] rfl (by kernel_rfl) (by kernel_rfl) (by kernel_rfl)
      (OpenSpec.preRow_of_cond 8 hx (by kernel_rfl) (fun k hk => by cases hk) (by kernel_rfl) (laid_met os #[.string ByteArray.empty, .string ByteArray.empty]))) ?_
  intro W base args ds gs before hval hW _ _ _ hL hsh _
  exact WildmatVerdicts_contract H enc W base args ds gs before hval hW hsh

theorem WildmatVerdicts_said : Rows.WildmatVerdictsSaid :=
  OpenClaim.holds_of_cond 7 Tryd.f7 rfl rfl rfl rfl rfl rfl rfl ⟨rfl, rfl, rfl, rfl, rfl⟩ rfl rfl rfl rfl rfl (by kernel_rfl) Tryd.func7 (by kernel_rfl)
    (of_decide_eq_true (by kernel_rfl)) (by unfold Func.isWrapper; first | (rw [if_pos (by decide +kernel)]; kernel_rfl) | (rw [if_neg (by decide +kernel)]; exact ⟨rfl, rfl⟩))
    (fun os started H enc _ F => by rw [OpenClaim.pre_eq_preRow]; exact WildmatVerdicts_lifted os started H enc F)

theorem WildmatVerdicts_plain (f : FuncId) (fn : Func) (hf : Tryd.pinned.checked.prog.funcNamed Rows.wildmatVerdictsRow.func = some f) (hfn : Tryd.pinned.checked.prog.funcs[f]? = some fn) :
    true = Tryd.pinned.checked.prog.looks [] ∧ ∀ (j : Nat) t, fn.params[j]? = some t → Tryd.pinned.checked.prog.wantsStandIn t = false := by
  obtain rfl : f = 7 := Option.some.inj ((show Tryd.prog.funcNamed Rows.wildmatVerdictsRow.func = some 7 by kernel_rfl).symm.trans hf) |>.symm
  obtain rfl : fn = Tryd.f7 := (Option.some.inj (Tryd.func7.symm.trans hfn)).symm
  refine ⟨by kernel_rfl, fun j t ht => ?_⟩
  rw [Tryd.params7] at ht
  have hm := Array.mem_of_getElem? ht
  simp only [List.mem_toArray, List.mem_cons, List.not_mem_nil, or_false] at hm
  rcases hm with rfl | rfl
  · exact (show Tryd.prog.wantsStandIn 9 = false by kernel_rfl)
  · exact (show Tryd.prog.wantsStandIn 9 = false by kernel_rfl)

theorem WildmatVerdicts_proved : Rows.WildmatVerdictsCardSaid :=
  Claim7.holds_tied_plain_at .later [] _ _ _ _ WildmatVerdicts_said (fun _ h => by cases h) (by kernel_rfl) (fun _ h => by cases h) wildmatVerdicts_row_tie rfl ⟨rfl, rfl⟩ (by kernel_rfl) rfl WildmatVerdicts_plain (by kernel_rfl)
end Go.Proofs.YtmiieifcefgedaaDoor
