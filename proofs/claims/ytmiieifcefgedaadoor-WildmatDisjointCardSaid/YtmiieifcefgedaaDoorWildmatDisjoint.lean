/- For every three texts, WildmatDisjoint returns true: a name that two patterns match is neither shorter than their common string nor smaller with the same length. No condition. -/
import Derived.Test.YtmiieifcefgedaaDoorWmG
namespace Go.Proofs.YtmiieifcefgedaaDoor
set_option linter.unusedSimpArgs false
set_option linter.unusedVariables false
open Go.ChangeShapes Go.WideShapes Go.ChangeAt Go.RowKit
open Go.ChangeMaps (open_string shut_string)

theorem best_le {ps qs : List Em} (hp : ∀ e ∈ ps, e.Ok) (hq : ∀ e ∈ qs, e.Ok) {t : Bs} (h1 : matchF ps t = true) (h2 : matchF qs t = true) : ∃ x, comF ps qs = some x ∧ leS x t := by
  have hb := comF_best ps hp qs hq
  cases hc : comF ps qs with
  | none => rw [hc] at hb; exact absurd ⟨h1, h2⟩ (hb t)
  | some x => rw [hc] at hb; exact ⟨x, rfl, hb.2 t ⟨h1, h2⟩⟩

set_option maxHeartbeats 4000000 in
set_option maxRecDepth 100000 in
theorem WildmatDisjoint_walk (a : ByteArray) (ha : a.size ≤ maxLen) (b : ByteArray) (hb : b.size ≤ maxLen) (c : ByteArray) (hc : c.size ≤ maxLen) (w : World) (hsh : w.ShapedOpen Tryd.prog) :
    Calls Tryd.prog 6 #[.string a, .string b, .string c] w fun e w' => e = .returned (.bool true) ∧ Below w.heap.size w w' := by
  have HSH := Lib.hid hsh; clear hsh
  have HC1 := Lib.hid (fun N (hN : N = ((40 : Nat) : Int)) wx => law_cut' a 40 N hN wx ha (by omega))
  have HC2 := Lib.hid (fun N (hN : N = ((40 : Nat) : Int)) wx => law_cut' b 40 N hN wx hb (by omega))
  have HC3 := Lib.hid (fun N (hN : N = ((100 : Nat) : Int)) wx => law_cut' c 100 N hN wx hc (by omega))
  have hx := cutB_size a 40; have hy := cutB_size b 40; have hz := cutB_size c 100
  clear ha hb hc
  generalize cutB a 40 = x at *
  generalize cutB b 40 = y at *
  generalize cutB c 100 = z at *
  go_enter Tryd.func6, Tryd.ntmps6
  go_wp2_with fail
  (with_reducible refine (HC1.out 40 rfl _).mono ?_)
  rintro e w' ⟨rfl, rfl⟩
  go_wp2_with fail
  (with_reducible refine (wm_compile x _ (by omega)).mono ?_)
  rintro e w1 ⟨v, rfl, hv, hb1⟩
  have HO1 := Lib.hid (compF_ok (toL x))
  have hl1 := (compF_len (toL x)).1
  generalize compF (toL x) = r at *
  obtain ⟨ps, n1, e1⟩ := r
  simp only at HO1 hl1 ⊢
  go_wp2_with fail
  (with_reducible refine (HC2.out 40 rfl _).mono ?_)
  rintro e w' ⟨rfl, rfl⟩
  go_wp2_with fail
  (with_reducible refine (wm_compile y _ (by omega)).mono ?_)
  rintro e w2 ⟨u, rfl, hu, hb2⟩
  have HO2 := Lib.hid (compF_ok (toL y))
  have hl2 := (compF_len (toL y)).1
  generalize compF (toL y) = r at *
  obtain ⟨qs, n2, e2⟩ := r
  simp only at HO2 hl2 ⊢
  have hw2 := hb1.trans (hb2.mono hb1.size)
  go_wp2_with fail
  (with_reducible refine (HC3.out 100 rfl _).mono ?_)
  rintro e w' ⟨rfl, rfl⟩
  clear HC1 HC2 HC3
  have HSH2 := Lib.hid (shaped_below HSH.out hw2)
  go_wp2_with fail
  (with_reducible refine (law_known w2 HSH2.out).mono ?_)
  rintro e w3 ⟨rfl, hb3⟩
  have hw3 := hw2.trans (hb3.mono hw2.size)
  have HSH3 := Lib.hid (shaped_below HSH.out hw3)
  have HKN := Lib.hid (law_known w3 HSH3.out)
  by_cases h1 : e1 = 0
  · by_cases h2 : e2 = 0
    · subst h1 h2
      obtain ⟨b1, rfl, hp⟩ := hv.yes
      obtain ⟨b2, rfl, hq⟩ := hu.yes
      have HP := Lib.hid ((hp.below hb2).below hb3)
      have HQ := Lib.hid (hq.below hb3)
      clear hp hq hb1 hb2 hb3 hw2 HKN HSH HSH2 HSH3
      go_wp2_with fail
      (with_reducible refine (pat_match b1 _ ps z w3 HP.out.at (by omega) HO1.out (by omega)).mono ?_)
      rintro e w4 ⟨rfl, hb4⟩
      have hw4 := hw3.trans (hb4.mono hw3.size)
      rcases hm1 : matchF ps (toL z) with _ | _
      · go_wp2_with fail
        go_ret
        exact ⟨rfl, hw4⟩
      have HM1 := Lib.hid hm1; clear hm1
      have HQ4 := Lib.hid (HQ.out.below hb4)
      have HP4 := Lib.hid (HP.out.below hb4)
      clear HP HQ hb4 hw3
      go_wp2_with fail
      (with_reducible refine (pat_match b2 _ qs z w4 HQ4.out.at (by omega) HO2.out (by omega)).mono ?_)
      rintro e w5 ⟨rfl, hb5⟩
      have hw5 := hw4.trans (hb5.mono hw4.size)
      rcases hm2 : matchF qs (toL z) with _ | _
      · go_wp2_with fail
        go_ret
        exact ⟨rfl, hw5⟩
      obtain ⟨X, hX, hle⟩ := best_le HO1.out HO2.out HM1.out hm2
      have HE1 := Lib.hid (emptyF_match ps _ HM1.out)
      have HE2 := Lib.hid (emptyF_match qs _ hm2)
      have HQ5 := Lib.hid (HQ4.out.below hb5)
      have HP5 := Lib.hid (HP4.out.below hb5)
      have HCM := Lib.hid (wm_common b1 b2 _ _ ps qs w5 HP5.out.at HQ5.out.at HO1.out (by omega) (by omega))
      rw [hX] at HCM
      have HLE := Lib.hid hle
      clear hm2 HQ4 HP4 hb5 hw4 hX hle
      go_wp2_with fail
      (with_reducible refine HCM.out.mono ?_)
      rintro e w6 ⟨rfl, hb6⟩
      have hw6 := hw5.trans (hb6.mono hw5.size)
      have HQ6 := Lib.hid (HQ5.out.below hb6)
      have HP6 := Lib.hid (HP5.out.below hb6)
      have hle := HLE.out
      simp only [Option.getD_some, Option.isSome_some]
      obtain ⟨S, hS⟩ : ∃ S, S = ofL X := ⟨_, rfl⟩
      rw [← hS]
      have hXS : X = toL S := by rw [hS, toL_ofL]
      rw [hXS] at hle
      have HLZ := Lib.hid (show leS (toL S) (toL z) from hle)
      clear hS hXS hle HCM HLE HQ5 HP5 hb6 hw5
      go_wp2_with fail
      (with_reducible refine (pat_empty b1 _ ps w6 HP6.out.at (by omega)).mono ?_)
      rintro e w7 ⟨rfl, hb7⟩
      rw [HE1.out]
      have hw7 := hw6.trans (hb7.mono hw6.size)
      have HQ7 := Lib.hid (HQ6.out.below hb7)
      go_wp2_with fail
      (with_reducible refine (pat_empty b2 _ qs w7 HQ7.out.at (by omega)).mono ?_)
      rintro e w8 ⟨rfl, hb8⟩
      rw [HE2.out]
      have hw8 := hw7.trans (hb8.mono hw7.size)
      have hlz := HLZ.out
      simp only [leS, slB, Bool.or_eq_false_iff, decide_eq_false_iff_not, Bool.and_eq_false_iff, toL_length] at hlz
      obtain ⟨s1, s2⟩ := hlz
      by_cases hlt : S.size < z.size
      · have i1 : (S.size : Int) < (z.size : Int) := by omega
        go_wp2_with fail
        go_ret
        exact ⟨rfl, hw8⟩
      · have i1 : (z.size : Int) ≤ (S.size : Int) := by omega
        have i2 : ((S.size : Int) == (z.size : Int)) = true := by rw [beq_iff_eq]; omega
        have s3 : lexB (toL z) (toL S) = false := by
          rcases s2 with s2 | s2
          · omega
          · exact s2
        rcases lexB_total (toL S) (toL z) with hE | hE | hE
        · obtain rfl : S = z := toL_inj hE
          have f1 : (S.toList == S.toList) = true := by simp
          clear s2 s1 s3 hE
          go_wp2_with fail
          go_ret
          exact ⟨ret_bool (by simp), hw8⟩
        · rw [← lexB_less, show toL z = z.toList from (ByteArray.toList_eq _).symm, show toL S = S.toList from (ByteArray.toList_eq _).symm] at hE
          clear s2 s1 s3
          go_wp2_with fail
          go_ret
          exact ⟨ret_bool (by simp [hE]), hw8⟩
        · rw [s3] at hE; cases hE
    · have h2' : (e2 != 0) = true := by simpa using h2
      subst h1
      clear h2 hv hu
      go_wp2_with fail
      (with_reducible refine HKN.out.mono ?_)
      rintro e w4 ⟨rfl, hb4⟩
      go_wp2_with fail
      go_ret
      exact ⟨rfl, hw3.trans (hb4.mono hw3.size)⟩
  · have h1' : (e1 != 0) = true := by simpa using h1
    clear h1 hv hu
    go_wp2_with fail
    (with_reducible refine HKN.out.mono ?_)
    rintro e w4 ⟨rfl, hb4⟩
    go_wp2_with fail
    go_ret
    exact ⟨rfl, hw3.trans (hb4.mono hw3.size)⟩

set_option maxRecDepth 100000 in
theorem WildmatDisjoint_contract (H : Type) (enc : TypeId × Value → H) (W : World) (base : Nat) (args : Array Value) (ds gs : List (DataW H)) (before : List MemPlace)
    (hval0 : ∀ (j : Nat) t v, Tryd.f6.params[j]? = some t → args[j]? = some v → Value.okWide Tryd.prog W .any base t v)
    (hW : DataW.Whole enc Tryd.prog Tryd.f6.params.toList Rows.wildmatDisjointSpec.vars false W args.toList ds gs before) (hsh : W.ShapedOpen Tryd.prog) :
    Calls Tryd.prog 6 args W fun e W' => ∃ v, e = .returned v ∧ Rows.wildmatDisjointSpec.post enc Tryd.prog Tryd.f6 false true false false W args v W' := by
  have hval : ∀ (j : Nat) t v, Tryd.f6.params[j]? = some t → args[j]? = some v → Value.okWide Tryd.prog W .any base t v := hval0
  have hW' := hW
  obtain ⟨p, q, hA0, hV, rfl, hfz, hnd⟩ := hW
  have hA : DataW.TrodAll enc Tryd.prog W 0 (fun _ => true) true Tryd.f6.params.toList args.toList ds p := hA0
  rw [Tryd.params6] at hA hval
  obtain ⟨v0, vs0, d0, ds0, p0, q0, hargs, rfl, rfl, h0, r0⟩ := trodAll_cons hA
  obtain ⟨v1, vs1, d1, ds1, p1, q1, rfl, rfl, rfl, h1, r1⟩ := trodAll_cons r0
  obtain ⟨v2, vs2, d2, ds2, p2, q2, rfl, rfl, rfl, h2, r2⟩ := trodAll_cons r1
  obtain ⟨rfl, rfl, rfl⟩ := trodAll_nil r2
  obtain rfl : args = #[v0, v1, v2] := by cases args; simp_all
  obtain ⟨rfl, rfl⟩ := trodVars_none hV
  obtain ⟨a0, rfl, rfl, rfl, w0⟩ := open_string Tryd.underlying9 (hval 0 9 v0 rfl rfl) h0
  obtain ⟨a1, rfl, rfl, rfl, w1⟩ := open_string Tryd.underlying9 (hval 1 9 v1 rfl rfl) h1
  obtain ⟨a2, rfl, rfl, rfl, w2⟩ := open_string Tryd.underlying9 (hval 2 9 v2 rfl rfl) h2
  refine (WildmatDisjoint_walk a0 w0 a1 w1 a2 w2 W hsh).mono fun e W' ⟨he, hg⟩ => ?_
  subst he
  exact ⟨_, rfl, law_post hW' rfl rfl rfl (by decide +kernel) hg⟩

theorem WildmatDisjoint_reads (os : Os) {H : Type} (enc : TypeId × Value → H) : ∃ places, DataW.whole enc Tryd.prog ((laidWorld os).forCall (fun _ _ => 0) ⟨#[], #[.string ByteArray.empty, .string ByteArray.empty, .string ByteArray.empty], []⟩).memory Tryd.f6.params.toList Rows.wildmatDisjointSpec.vars false ((#[.string ByteArray.empty, .string ByteArray.empty, .string ByteArray.empty] : Array Value)).toList 8 = some ([.lit (.string []), .lit (.string []), .lit (.string [])], [], places) :=
  ⟨[], by kernel_rfl⟩

set_option maxRecDepth 100000 in
theorem WildmatDisjoint_lifted (os : Os) (started : os.Started) (H : Type) (enc : TypeId × Value → H) (F : Stop.Interp) :
    ReturnsInHanded {} Tryd.checked os 6 .any ((OpenSpec.ofChange Rows.wildmatDisjointSpec).preRow enc Tryd.prog Tryd.f6 Rows.wildmatDisjointRow.domain false Rows.wildmatDisjointRow.laid) (((OpenSpec.ofChange Rows.wildmatDisjointSpec).at F).post enc Tryd.prog Tryd.f6 false true false false) := by
  obtain ⟨places, hx⟩ := WildmatDisjoint_reads os enc
  refine returnsInHanded_of_row (C := Tryd.checked) (s := OpenSpec.ofChange Rows.wildmatDisjointSpec) own started (by kernel_rfl) Tryd.func6
    (witness_row_at (enc := enc) (C := Tryd.checked) false (laidWorld os) #[.string ByteArray.empty, .string ByteArray.empty, .string ByteArray.empty] rfl (by kernel_rfl) (by kernel_rfl) (by kernel_rfl)
      (OpenSpec.preRow_of_cond 8 hx (by kernel_rfl) (fun k hk => by cases hk) (by kernel_rfl) (laid_met os #[.string ByteArray.empty, .string ByteArray.empty, .string ByteArray.empty]))) ?_
  intro W base args ds gs before hval hW _ _ _ hL hsh _
  exact WildmatDisjoint_contract H enc W base args ds gs before hval hW hsh

theorem WildmatDisjoint_said : Rows.WildmatDisjointSaid :=
  OpenClaim.holds_of_cond 6 Tryd.f6 rfl rfl rfl rfl rfl rfl rfl ⟨rfl, rfl, rfl, rfl, rfl⟩ rfl rfl rfl rfl rfl (by kernel_rfl) Tryd.func6 (by kernel_rfl)
    (of_decide_eq_true (by kernel_rfl)) (by unfold Func.isWrapper; first | (rw [if_pos (by decide +kernel)]; kernel_rfl) | (rw [if_neg (by decide +kernel)]; exact ⟨rfl, rfl⟩))
    (fun os started H enc _ F => by rw [OpenClaim.pre_eq_preRow]; exact WildmatDisjoint_lifted os started H enc F)

theorem WildmatDisjoint_plain (f : FuncId) (fn : Func) (hf : Tryd.pinned.checked.prog.funcNamed Rows.wildmatDisjointRow.func = some f) (hfn : Tryd.pinned.checked.prog.funcs[f]? = some fn) :
    true = Tryd.pinned.checked.prog.looks [] ∧ ∀ (j : Nat) t, fn.params[j]? = some t → Tryd.pinned.checked.prog.wantsStandIn t = false := by
  obtain rfl : f = 6 := Option.some.inj ((show Tryd.prog.funcNamed Rows.wildmatDisjointRow.func = some 6 by kernel_rfl).symm.trans hf) |>.symm
  obtain rfl : fn = Tryd.f6 := (Option.some.inj (Tryd.func6.symm.trans hfn)).symm
  refine ⟨by kernel_rfl, fun j t ht => ?_⟩
  rw [Tryd.params6] at ht
  have hm := Array.mem_of_getElem? ht
  simp only [List.mem_toArray, List.mem_cons, List.not_mem_nil, or_false] at hm
  rcases hm with rfl | rfl | rfl
  · exact (show Tryd.prog.wantsStandIn 9 = false by kernel_rfl)
  · exact (show Tryd.prog.wantsStandIn 9 = false by kernel_rfl)
  · exact (show Tryd.prog.wantsStandIn 9 = false by kernel_rfl)

theorem WildmatDisjoint_proved : Rows.WildmatDisjointCardSaid :=
  Claim7.holds_tied_plain_at .later [] _ _ _ _ WildmatDisjoint_said (fun _ h => by cases h) (by kernel_rfl) (fun _ h => by cases h) wildmatDisjoint_row_tie rfl ⟨rfl, rfl⟩ (by kernel_rfl) rfl WildmatDisjoint_plain (by kernel_rfl)

end Go.Proofs.YtmiieifcefgedaaDoor
