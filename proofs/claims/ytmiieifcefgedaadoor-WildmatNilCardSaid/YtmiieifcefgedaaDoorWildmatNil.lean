/- For every two texts, WildmatNil returns true: nil patterns and nil lists answer as the chapter says. No condition. -/
import Derived.Test.YtmiieifcefgedaaDoorWmG
namespace Go.Proofs.YtmiieifcefgedaaDoor
set_option linter.unusedSimpArgs false
set_option linter.unusedVariables false
open Go.ChangeShapes Go.WideShapes Go.ChangeAt Go.RowKit
open Go.ChangeMaps (open_string shut_string)

set_option maxHeartbeats 4000000 in
set_option maxRecDepth 100000 in
theorem WildmatNil_walk (a : ByteArray) (ha : a.size ≤ maxLen) (b : ByteArray) (hb : b.size ≤ maxLen) (w : World) (hsh : w.ShapedOpen Tryd.prog) :
    Calls Tryd.prog 12 #[.string a, .string b] w fun e w' => e = .returned (.bool true) ∧ Below w.heap.size w w' := by
  have HSH := Lib.hid hsh; clear hsh
  have HC1 := Lib.hid (fun N (hN : N = ((80 : Nat) : Int)) wx => law_cut' a 80 N hN wx ha (by omega))
  have HC2 := Lib.hid (fun N (hN : N = ((100 : Nat) : Int)) wx => law_cut' b 100 N hN wx hb (by omega))
  have hx := cutB_size a 80; have hy := cutB_size b 100
  clear ha hb
  go_enter Tryd.func12, Tryd.ntmps12
  go_wp2_with fail
  (with_reducible refine (HC1.out 80 rfl _).mono ?_)
  rintro e w' ⟨rfl, rfl⟩
  go_wp2_with fail
  (with_reducible refine (HC2.out 100 rfl _).mono ?_)
  rintro e w' ⟨rfl, rfl⟩
  generalize cutB a 80 = x at *
  generalize cutB b 100 = y at *
  clear HC1 HC2
  go_wp2_with fail
  (with_reducible refine (wm_compile x _ (by omega)).mono ?_)
  rintro e w1 ⟨v, rfl, hv, hb1⟩
  obtain ⟨p, rfl⟩ := hv.ptr
  clear hv
  generalize compF (toL x) = r
  obtain ⟨r1, r2, r3⟩ := r
  simp only
  go_wp2_with fail
  (with_reducible refine (wm_common_nil1 _ _).mono ?_)
  rintro e w' ⟨rfl, rfl⟩
  go_wp2_with fail
  (with_reducible refine (wm_common_nil2 _ _).mono ?_)
  rintro e w' ⟨rfl, rfl⟩
  have HSH1 := Lib.hid (shaped_below HSH.out hb1)
  go_wp2_with fail
  (with_reducible refine (law_known w1 HSH1.out).mono ?_)
  rintro e w2 ⟨rfl, hb2⟩
  have hw2 := hb1.trans (hb2.mono hb1.size)
  clear hb1 hb2 HSH HSH1
  go_wp2_with fail
  (with_reducible refine (pat_string_nil _).mono ?_)
  rintro e w' ⟨rfl, rfl⟩
  go_wp2_with fail
  (with_reducible refine (pat_match_nil _ _).mono ?_)
  rintro e w' ⟨rfl, rfl⟩
  go_wp2_with fail
  (with_reducible refine (pat_match_nil _ _).mono ?_)
  rintro e w' ⟨rfl, rfl⟩
  go_wp2_with fail
  (with_reducible refine (pat_empty_nil _).mono ?_)
  rintro e w' ⟨rfl, rfl⟩
  go_wp2_with fail
  (with_reducible refine (lst_string_nil _).mono ?_)
  rintro e w' ⟨rfl, rfl⟩
  go_wp2_with fail
  (with_reducible refine (lst_len_nil _).mono ?_)
  rintro e w' ⟨rfl, rfl⟩
  go_wp2_with fail
  (with_reducible refine (lst_verdict_nil _ _).mono ?_)
  rintro e w3 ⟨rfl, hb3⟩
  have hw3 := hw2.trans (hb3.mono hw2.size)
  clear hw2 hb3
  have HSEL := Lib.hid (show Calls Tryd.prog 31 #[.pointer none, .slice (some ⟨w3.heap.size, 0, none⟩) 1 1] (w3.alloc (.cells #[.string y] 9)) fun e w' => e = .returned (.bool false) ∧ Below (w3.alloc (.cells #[.string y] 9)).heap.size (w3.alloc (.cells #[.string y] 9)) w' from
    lst_selects (.pointer none) [] _ [toL y] 1 _ (.inl ⟨rfl, rfl⟩) (by simp) (by simp) (row_one w3 y 9) (by simp) (by simp [toL_length]; omega))
  go_wp2_with fail
  (with_reducible refine HSEL.out.mono ?_)
  rintro e w4 ⟨rfl, hb4⟩
  have hw4 := (hw3.trans ((alloc_bel w3 _).mono hw3.size)).trans (hb4.mono (hw3.trans ((alloc_bel w3 _).mono hw3.size)).size)
  clear hw3 hb4 HSEL
  have HFIL := Lib.hid (show Calls Tryd.prog 30 #[.pointer none, .slice (some ⟨w4.heap.size, 0, none⟩) 1 1] (w4.alloc (.cells #[.string y] 9)) fun e w' => ∃ u, e = .returned u ∧ StrsO (w4.alloc (.cells #[.string y] 9)) w' u [] from
    lst_filter (.pointer none) [] _ [toL y] 1 _ (.inl ⟨rfl, rfl⟩) (by simp) (by simp) (row_one w4 y 9) (by simp) (by simp [toL_length]; omega))
  go_wp2_with fail
  (with_reducible refine HFIL.out.mono ?_)
  rintro e w5 ⟨u, rfl, hS⟩
  obtain ⟨A5, c5, rfl, _⟩ := own_row hS.own
  have hw5 := (hw4.trans ((alloc_bel w4 _).mono hw4.size)).trans (hS.bel.mono (hw4.trans ((alloc_bel w4 _).mono hw4.size)).size)
  clear hw4 hS HFIL
  go_wp2_with fail
  go_ret
  exact ⟨rfl, hw5⟩

set_option maxRecDepth 100000 in
theorem WildmatNil_contract (H : Type) (enc : TypeId × Value → H) (W : World) (base : Nat) (args : Array Value) (ds gs : List (DataW H)) (before : List MemPlace)
    (hval0 : ∀ (j : Nat) t v, Tryd.f12.params[j]? = some t → args[j]? = some v → Value.okWide Tryd.prog W .any base t v)
    (hW : DataW.Whole enc Tryd.prog Tryd.f12.params.toList Rows.wildmatNilSpec.vars false W args.toList ds gs before) (hsh : W.ShapedOpen Tryd.prog) :
    Calls Tryd.prog 12 args W fun e W' => ∃ v, e = .returned v ∧ Rows.wildmatNilSpec.post enc Tryd.prog Tryd.f12 false true false false W args v W' := by
  have hval : ∀ (j : Nat) t v, Tryd.f12.params[j]? = some t → args[j]? = some v → Value.okWide Tryd.prog W .any base t v := hval0
  have hW' := hW
  obtain ⟨p, q, hA0, hV, rfl, hfz, hnd⟩ := hW
  have hA : DataW.TrodAll enc Tryd.prog W 0 (fun _ => true) true Tryd.f12.params.toList args.toList ds p := hA0
  rw [Tryd.params12] at hA hval
  obtain ⟨v0, vs0, d0, ds0, p0, q0, hargs, rfl, rfl, h0, r0⟩ := trodAll_cons hA
  obtain ⟨v1, vs1, d1, ds1, p1, q1, rfl, rfl, rfl, h1, r1⟩ := trodAll_cons r0
  obtain ⟨rfl, rfl, rfl⟩ := trodAll_nil r1
  obtain rfl : args = #[v0, v1] := by cases args; simp_all
  obtain ⟨rfl, rfl⟩ := trodVars_none hV
  obtain ⟨a0, rfl, rfl, rfl, w0⟩ := open_string Tryd.underlying9 (hval 0 9 v0 rfl rfl) h0
  obtain ⟨a1, rfl, rfl, rfl, w1⟩ := open_string Tryd.underlying9 (hval 1 9 v1 rfl rfl) h1
  refine (WildmatNil_walk a0 w0 a1 w1 W hsh).mono fun e W' ⟨he, hg⟩ => ?_
  subst he
  exact ⟨_, rfl, law_post hW' rfl rfl rfl (by decide +kernel) hg⟩

theorem WildmatNil_reads (os : Os) {H : Type} (enc : TypeId × Value → H) : ∃ places, DataW.whole enc Tryd.prog ((laidWorld os).forCall (fun _ _ => 0) ⟨#[], #[.string ByteArray.empty, .string ByteArray.empty], []⟩).memory Tryd.f12.params.toList Rows.wildmatNilSpec.vars false ((#[.string ByteArray.empty, .string ByteArray.empty] : Array Value)).toList 8 = some ([.lit (.string []), .lit (.string [])], [], places) :=
  ⟨[], by kernel_rfl⟩

set_option maxRecDepth 100000 in
theorem WildmatNil_lifted (os : Os) (started : os.Started) (H : Type) (enc : TypeId × Value → H) (F : Stop.Interp) :
    ReturnsInHanded {} Tryd.checked os 12 .any ((OpenSpec.ofChange Rows.wildmatNilSpec).preRow enc Tryd.prog Tryd.f12 Rows.wildmatNilRow.domain false Rows.wildmatNilRow.laid) (((OpenSpec.ofChange Rows.wildmatNilSpec).at F).post enc Tryd.prog Tryd.f12 false true false false) := by
  obtain ⟨places, hx⟩ := WildmatNil_reads os enc
  refine returnsInHanded_of_row (C := Tryd.checked) (s := OpenSpec.ofChange Rows.wildmatNilSpec) own started (by kernel_rfl) Tryd.func12
    (witness_row_at (enc := enc) (C := Tryd.checked) false (laidWorld os) #[.string ByteArray.empty, .string ByteArray.empty] rfl (by kernel_rfl) (by kernel_rfl) (by kernel_rfl)
      (OpenSpec.preRow_of_cond 8 hx (by kernel_rfl) (fun k hk => by cases hk) (by kernel_rfl) (laid_met os #[.string ByteArray.empty, .string ByteArray.empty]))) ?_
  intro W base args ds gs before hval hW _ _ _ hL hsh _
  exact WildmatNil_contract H enc W base args ds gs before hval hW hsh

theorem WildmatNil_said : Rows.WildmatNilSaid :=
  OpenClaim.holds_of_cond 12 Tryd.f12 rfl rfl rfl rfl rfl rfl rfl ⟨rfl, rfl, rfl, rfl, rfl⟩ rfl rfl rfl rfl rfl (by kernel_rfl) Tryd.func12 (by kernel_rfl)
    (of_decide_eq_true (by kernel_rfl)) (by unfold Func.isWrapper; first | (rw [if_pos (by decide +kernel)]; kernel_rfl) | (rw [if_neg (by decide +kernel)]; exact ⟨rfl, rfl⟩))
    (fun os started H enc _ F => by rw [OpenClaim.pre_eq_preRow]; exact WildmatNil_lifted os started H enc F)

theorem WildmatNil_plain (f : FuncId) (fn : Func) (hf : Tryd.pinned.checked.prog.funcNamed Rows.wildmatNilRow.func = some f) (hfn : Tryd.pinned.checked.prog.funcs[f]? = some fn) :
    true = Tryd.pinned.checked.prog.looks [] ∧ ∀ (j : Nat) t, fn.params[j]? = some t → Tryd.pinned.checked.prog.wantsStandIn t = false := by
  obtain rfl : f = 12 := Option.some.inj ((show Tryd.prog.funcNamed Rows.wildmatNilRow.func = some 12 by kernel_rfl).symm.trans hf) |>.symm
  obtain rfl : fn = Tryd.f12 := (Option.some.inj (Tryd.func12.symm.trans hfn)).symm
  refine ⟨by kernel_rfl, fun j t ht => ?_⟩
  rw [Tryd.params12] at ht
  have hm := Array.mem_of_getElem? ht
  simp only [List.mem_toArray, List.mem_cons, List.not_mem_nil, or_false] at hm
  rcases hm with rfl | rfl
  · exact (show Tryd.prog.wantsStandIn 9 = false by kernel_rfl)
  · exact (show Tryd.prog.wantsStandIn 9 = false by kernel_rfl)

theorem WildmatNil_proved : Rows.WildmatNilCardSaid :=
  Claim7.holds_tied_plain_at .later [] _ _ _ _ WildmatNil_said (fun _ h => by cases h) (by kernel_rfl) (fun _ h => by cases h) wildmatNil_row_tie rfl ⟨rfl, rfl⟩ (by kernel_rfl) rfl WildmatNil_plain (by kernel_rfl)

end Go.Proofs.YtmiieifcefgedaaDoor
