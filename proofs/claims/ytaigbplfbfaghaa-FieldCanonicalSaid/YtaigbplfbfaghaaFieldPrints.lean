/- For every list of fields, FieldPrints returns true: Print agrees with the reference, and Parse is its inverse. No condition. -/
import Derived.Test.YtaigbplfbfaghaaOpen
import Derived.Test.YtaigbplfbfaghaaConv2
import Derived.Test.YtaigbplfbfaghaaPP
namespace Go.Proofs.Ytaigbplfbfaghaa
set_option linter.unusedSimpArgs false
set_option linter.unusedVariables false
open Go.ChangeShapes Go.WideShapes Go.ChangeAt Go.RowKit
open Go.ChangeMaps (open_string shut_string)

theorem printGo_ok (l : List Fd) : ∀ out, (printGo l out).2 = 0 → (∀ f ∈ l, GoodF f) ∧ (printGo l out).1 = out ++ (l.flatMap fun f => foldF f.1 f.2) ∧ (printGo l out).1.length ≤ 65536 := by
  induction l with
  | nil =>
    intro out h
    simp only [printGo] at h ⊢
    split at h
    · simp at h
    · rename_i h5
      rw [if_neg h5]
      exact ⟨by simp, by simp, by simp only; omega⟩
  | cons f r ih =>
    intro out h
    simp only [printGo] at h ⊢
    by_cases hc : checkF f.1 f.2 = 0
    · rw [if_neg (by simp [hc])] at h ⊢
      obtain ⟨h1, h2, h3⟩ := ih _ h
      refine ⟨fun g hg => ?_, by rw [h2]; simp, h3⟩
      rcases List.mem_cons.1 hg with rfl | hg
      · exact check_good _ _ hc
      · exact h1 g hg
    · rw [if_pos hc] at h; exact absurd h hc
theorem printF_ok (l : List Fd) (h : (printF l).2 = 0) : (∀ f ∈ l, GoodF f) ∧ l.length ≤ 64 ∧ (printF l).1 = (l.flatMap fun f => foldF f.1 f.2) ∧ (printF l).1.length ≤ 65536 := by
  unfold printF at h ⊢
  split at h
  · simp at h
  · rename_i h6
    rw [if_neg h6]
    obtain ⟨h1, h2, h3⟩ := printGo_ok l [] h
    exact ⟨h1, by omega, by rw [h2]; simp, h3⟩
theorem parse_printF (l : List Fd) (h : (printF l).2 = 0) : parseF (printF l).1 = (l, 0, 0) := by
  obtain ⟨h1, h2, h3, h4⟩ := printF_ok l h
  rw [h3] at h4 ⊢
  exact parse_print l h1 h2 h4

set_option maxHeartbeats 2000000 in
set_option maxRecDepth 100000 in
theorem FieldPrints_walk (A : Option Addr) (l : List Fd) (c : Nat) {w : World} (hr : Row w A (fldsV l)) (hl : Sized l) (_ : World) :
    Calls Try.prog 6 #[.slice A l.length c] w fun e w' => e = .returned (.bool true) ∧ Below w.heap.size w w' := by
  have HM := Lib.hid (cutList_mild l)
  have HLen := Lib.hid (cutList_length l)
  have HC := Lib.hid (law_cut A l c w hr hl)
  clear hr hl
  go_enter Try.func6, Try.ntmps6
  go_wp2_with fail
  (with_reducible refine HC.out.mono ?_)
  rintro e w1 ⟨v1, rfl, hF1⟩
  obtain ⟨A1, c1, rfl, hrow1⟩ := own_row hF1.own
  have hb1 := hF1.bel
  have hlen : (cutList l).length ≤ 70 := by have := HLen.out; omega
  clear hF1 HC HLen
  generalize cutList l = m at *
  go_wp2_with fail
  (with_reducible refine (law_to A1 m c1 w1 hrow1 hlen).mono ?_)
  rintro e w2 ⟨v2, rfl, hF2⟩
  obtain ⟨A2, c2, rfl, hrow2⟩ := own_row hF2.own
  have hb2 := hF2.bel
  have hbw2 := hb1.trans (hb2.mono hb1.size)
  have hr1 := hrow1.below hb2
  clear hF2 hrow1
  go_wp2_with fail
  (with_reducible refine (fld_print A2 m c2 w2 hrow2 HM.out).mono ?_)
  rintro e w3 ⟨rfl, hb3⟩
  have hbw3 := hbw2.trans (hb3.mono hbw2.size)
  have hr3 := hr1.below hb3
  clear hr1 hrow2
  obtain ⟨x, hx⟩ : ∃ x, ofL (printF m).1 = x := ⟨_, rfl⟩
  obtain ⟨pe, hpe⟩ : ∃ pe, (printF m).2 = pe := ⟨_, rfl⟩
  have HX := Lib.hid hx
  have HPE := Lib.hid hpe
  rw [hx, hpe]
  clear hx hpe
  go_wp2_with fail
  (with_reducible refine (ref_print A1 m c1 w3 hr3 HM.out).mono ?_)
  rintro e w4 ⟨rfl, hb4⟩
  rw [HX.out, HPE.out]
  have hbw4 := hbw3.trans (hb4.mono hbw3.size)
  have hr4 := hr3.below hb4
  clear hr3
  by_cases h0 : pe = 0
  · subst h0
    have HPP := Lib.hid (parse_printF m HPE.out)
    have HTX := Lib.hid (show (printF m).1 = toL x by rw [← HX.out, toL_ofL])
    have hxs : x.size ≤ 65536 := by
      have := (printF_ok m HPE.out).2.2.2
      rw [HTX.out, toL_length] at this; exact this
    have HPX := Lib.hid (show parseF (toL x) = (m, 0, 0) by rw [← HTX.out]; exact HPP.out)
    go_wp2_with fail
    (with_reducible refine (fld_parse x w4 (by omega)).mono ?_)
    rintro e w5 ⟨v5, rfl, hown5, hb5⟩
    rw [HPX.out] at hown5 ⊢
    obtain ⟨A5, c5, rfl, hrow5⟩ := own_row hown5
    simp only at hrow5 ⊢
    have hbw5 := hbw4.trans (hb5.mono hbw4.size)
    have hr5 := hr4.below hb5
    clear hr4 hown5
    go_wp2_with fail
    (with_reducible refine (law_known w5).mono ?_)
    rintro e w6 ⟨rfl, hb6⟩
    have hbw6 := hbw5.trans (hb6.mono hbw5.size)
    have hr6 := hr5.below hb6
    have hrow6 := hrow5.below hb6
    clear hr5 hrow5
    go_wp2_with fail
    (with_reducible refine (law_of A5 m c5 w6 hrow6 (by omega)).mono ?_)
    rintro e w7 ⟨v7, rfl, hF7⟩
    obtain ⟨A7, c7, rfl, hrow7⟩ := own_row hF7.own
    have hb7 := hF7.bel
    have hbw7 := hbw6.trans (hb7.mono hbw6.size)
    have hr7 := hr6.below hb7
    clear hF7 hr6 hrow6
    go_wp2_with fail
    (with_reducible refine (ref_same A7 A1 m m c7 c1 w7 hrow7 hr7 (by omega) (by omega)).mono ?_)
    rintro e w8 ⟨rfl, hb8⟩
    have hbw8 := hbw7.trans (hb8.mono hbw7.size)
    simp only [decide_true]
    go_wp2_with fail
    go_ret
    exact ⟨ret_bool (by simp), hbw8⟩
  · have h0' : (pe != 0) = true := by simpa using h0
    clear h0
    go_wp2_with fail
    (with_reducible refine (law_known w4).mono ?_)
    rintro e w5 ⟨rfl, hb5⟩
    go_wp2_with fail
    go_ret
    exact ⟨rfl, hbw4.trans (hb5.mono hbw4.size)⟩

set_option maxRecDepth 100000 in
theorem FieldPrints_lifted (os : Os) (started : os.Started) (H : Type) (enc : TypeId × Value → H) :
    ReturnsInHanded {} Try.checked os 6 .any (Rows.fieldPrintsSpec.pre6 enc Try.prog Try.f6 Rows.fieldPrintsRow.domain false) (Rows.fieldPrintsSpec.post enc Try.prog Try.f6 false true false false) := by
  refine returnsInHanded_of_change (C := Try.checked) own started (by kernel_rfl) Try.func6
    (ChangeSpec.witness6 (enc := enc) (C := Try.checked) false ⟨#[], #[.slice none 0 0], []⟩ 8 (by kernel_rfl) (by kernel_rfl) (by kernel_rfl) (by kernel_rfl)) ?_
  intro W base args ds gs before hval0 hW hcnd _
  have hval : ∀ (j : Nat) t v, Try.f6.params[j]? = some t → args[j]? = some v → Value.okWide Try.prog W .any base t v := hval0
  have hW' := hW
  obtain ⟨p, q, hA0, hV, rfl, hfz, hnd⟩ := hW
  have hplt : ∀ x ∈ p, x.block < W.heap.size := fun x hx => hW'.lt x (by simp [hx])
  have hA : DataW.TrodAll enc Try.prog W 0 (fun _ => true) true Try.f6.params.toList args.toList ds p := hA0
  rw [Try.params6] at hA hval
  obtain ⟨v0, vs0, d0, ds0, p0, q0, hargs, rfl, rfl, h0, r0⟩ := trodAll_cons hA
  obtain ⟨rfl, rfl, rfl⟩ := trodAll_nil r0
  obtain rfl : args = #[v0] := by cases args; simp_all
  obtain ⟨rfl, rfl⟩ := trodVars_none hV
  obtain ⟨A0, l0, c0, hv0, hrow0, hsz0⟩ := open_flds Try.underlying26 Try.underlying25 (by kernel_rfl) (by kernel_rfl) rfl rfl Try.underlying9 (hval 0 26 v0 rfl rfl) h0
  subst hv0
  refine (FieldPrints_walk A0 l0 c0 hrow0 hsz0 W).mono fun e W' ⟨he, hg⟩ => ?_
  subst he
  exact ⟨_, rfl, law_post hW' rfl rfl rfl (by decide +kernel) hg⟩

theorem FieldPrints_over : Rows.fieldPrintsRow.holds Try.pinned (OpenSpec.ofChange Rows.fieldPrintsSpec) :=
  OpenClaim.holds_of_wide 6 Try.f6 rfl rfl rfl rfl rfl rfl rfl ⟨rfl, rfl, rfl, rfl, rfl⟩ rfl rfl rfl rfl rfl (by kernel_rfl) Try.func6 (by kernel_rfl)
    (of_decide_eq_true (by kernel_rfl)) (by unfold Func.isWrapper; first | (rw [if_pos (by decide +kernel)]; kernel_rfl) | (rw [if_neg (by decide +kernel)]; exact ⟨rfl, rfl⟩))
    (fun os started H enc _ => FieldPrints_lifted os started H enc)

theorem FieldPrints_proved : Rows.FieldPrintsSaid := FieldPrints_over

end Go.Proofs.Ytaigbplfbfaghaa
