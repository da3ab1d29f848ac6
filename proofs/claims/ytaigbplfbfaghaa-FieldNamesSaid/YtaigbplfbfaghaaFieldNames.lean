/- For every string, FieldNames returns true: the chapter's examples hold and ValidName answers as the reference. No condition. -/
import Derived.Test.YtaigbplfbfaghaaLaw
namespace Go.Proofs.Ytaigbplfbfaghaa
set_option linter.unusedSimpArgs false
set_option linter.unusedVariables false
open Go.ChangeShapes Go.WideShapes Go.ChangeAt Go.RowKit
open Go.ChangeMaps (open_string shut_string)

set_option maxHeartbeats 1000000 in
set_option maxRecDepth 100000 in
theorem FieldNames_walk (a : ByteArray) (ha : a.size ≤ maxLen) (w : World) :
    Calls Try.prog 3 #[.string a] w fun e w' => e = .returned (.bool true) ∧ Below w.heap.size w w' := by
  unfold maxLen at ha
  go_enter Try.func3, Try.ntmps3
  go_wp2_with fail
  have hx : (a.extract 0 (min (a.size : Int) 100).toNat).size ≤ 100 := by rw [extract_size _ _ _ (by omega)]; omega
  generalize a.extract 0 (min (a.size : Int) 100).toNat = x at *
  (with_reducible refine (law_known w).mono ?_)
  rintro e w1 ⟨rfl, hb1⟩
  go_wp2_with fail
  (with_reducible refine (fld_validName x w1 (by unfold maxLen; omega)).mono ?_)
  rintro e w2 ⟨rfl, hb2⟩
  have hbw := hb1.trans (hb2.mono hb1.size)
  go_wp2_with fail
  (with_reducible refine (ref_validName x w2 (by unfold maxLen; omega)).mono ?_)
  rintro e w3 ⟨rfl, rfl⟩
  go_wp2_with fail
  go_ret
  exact ⟨ret_bool (by simp), hbw⟩

set_option maxRecDepth 100000 in
theorem FieldNames_lifted (os : Os) (started : os.Started) (H : Type) (enc : TypeId × Value → H) :
    ReturnsInHanded {} Try.checked os 3 .any (Rows.fieldNamesSpec.pre6 enc Try.prog Try.f3 Rows.fieldNamesRow.domain false) (Rows.fieldNamesSpec.post enc Try.prog Try.f3 false true false false) := by
  refine returnsInHanded_of_change (C := Try.checked) own started (by kernel_rfl) Try.func3
    (ChangeSpec.witness6 (enc := enc) (C := Try.checked) false ⟨#[], #[.string ByteArray.empty], []⟩ 8 (by kernel_rfl) (by kernel_rfl) (by kernel_rfl) (by kernel_rfl)) ?_
  intro W base args ds gs before hval0 hW hcnd _
  have hval : ∀ (j : Nat) t v, Try.f3.params[j]? = some t → args[j]? = some v → Value.okWide Try.prog W .any base t v := hval0
  have hW' := hW
  obtain ⟨p, q, hA0, hV, rfl, hfz, hnd⟩ := hW
  have hA : DataW.TrodAll enc Try.prog W 0 (fun _ => true) true Try.f3.params.toList args.toList ds p := hA0
  rw [Try.params3] at hA hval
  obtain ⟨v0, vs0, d0, ds0, p0, q0, hargs, rfl, rfl, h0, r0⟩ := trodAll_cons hA
  obtain ⟨rfl, rfl, rfl⟩ := trodAll_nil r0
  obtain rfl : args = #[v0] := by cases args; simp_all
  obtain ⟨rfl, rfl⟩ := trodVars_none hV
  obtain ⟨a0, rfl, rfl, rfl, w0⟩ := open_string Try.underlying9 (hval 0 9 v0 rfl rfl) h0
  refine (FieldNames_walk a0 w0 W).mono fun e W' ⟨he, hg⟩ => ?_
  subst he
  exact ⟨_, rfl, law_post hW' rfl rfl rfl (by decide +kernel) hg⟩

theorem FieldNames_over : Rows.fieldNamesRow.holds Try.pinned (OpenSpec.ofChange Rows.fieldNamesSpec) :=
  OpenClaim.holds_of_wide 3 Try.f3 rfl rfl rfl rfl rfl rfl rfl ⟨rfl, rfl, rfl, rfl, rfl⟩ rfl rfl rfl rfl rfl (by kernel_rfl) Try.func3 (by kernel_rfl)
    (of_decide_eq_true (by kernel_rfl)) (by unfold Func.isWrapper; first | (rw [if_pos (by decide +kernel)]; kernel_rfl) | (rw [if_neg (by decide +kernel)]; exact ⟨rfl, rfl⟩))
    (fun os started H enc _ => FieldNames_lifted os started H enc)

theorem FieldNames_proved : Rows.FieldNamesSaid := FieldNames_over

end Go.Proofs.Ytaigbplfbfaghaa
