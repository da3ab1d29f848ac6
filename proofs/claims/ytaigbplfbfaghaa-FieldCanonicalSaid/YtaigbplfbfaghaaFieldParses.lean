/- For every string, FieldParses returns true: Parse agrees with the reference in its fields, its errors and their offsets. No condition. -/
import Derived.Test.YtaigbplfbfaghaaRefParse
import Derived.Test.YtaigbplfbfaghaaConv2
namespace Go.Proofs.Ytaigbplfbfaghaa
set_option linter.unusedSimpArgs false
set_option linter.unusedVariables false
open Go.ChangeShapes Go.WideShapes Go.ChangeAt Go.RowKit
open Go.ChangeMaps (open_string shut_string)

theorem pLoop_inv (l : List UInt8) : ∀ (n : Nat) (st : PSt) (frm : Nat), PInv l st → PInv l (pLoop validName n l st frm) := by
  intro n
  induction n with
  | zero => intro st frm h; exact h
  | succ n ih =>
    intro st frm h
    rw [pLoop]
    split
    · rename_i hc
      exact ih _ _ (round_pre l st frm (by omega) h).2.2.1
    · exact h
theorem parseF_len (l : List UInt8) : (parseF l).1.length ≤ 64 := by
  have h := pLoop_inv l (l.length + 1) pInit 0 ⟨by simp [pInit], fun _ => ⟨by simp [pInit], by simp [pInit, lastBody]⟩⟩
  unfold parseF parseV
  split
  · simp
  · split
    · simp
    · rename_i h1 h2
      exact (h.2 (by simpa using h2)).1

set_option maxHeartbeats 1000000 in
set_option maxRecDepth 100000 in
theorem FieldParses_walk (a : ByteArray) (ha : a.size ≤ maxLen) (w : World) :
    Calls Try.prog 7 #[.string a] w fun e w' => e = .returned (.bool true) ∧ Below w.heap.size w w' := by
  unfold maxLen at ha
  go_enter Try.func7, Try.ntmps7
  go_wp2_with fail
  have hx : (a.extract 0 (min (a.size : Int) 70000).toNat).size ≤ 70000 := by rw [extract_size _ _ _ (by omega)]; omega
  generalize a.extract 0 (min (a.size : Int) 70000).toNat = x at *
  (with_reducible refine (fld_parse x w (by omega)).mono ?_)
  rintro e w1 ⟨v1, rfl, hown1, hb1⟩
  obtain ⟨A1, c1, rfl, hrow1⟩ := own_row hown1
  have hlen := parseF_len (toL x)
  obtain ⟨r, hr⟩ : ∃ r, parseF (toL x) = r := ⟨_, rfl⟩
  have HR := Lib.hid hr
  rw [hr] at hlen hrow1 ⊢
  clear hown1 hr
  go_wp2_with fail
  (with_reducible refine (ref_parse x w1 (by omega)).mono ?_)
  rintro e w2 ⟨v2, rfl, hF2⟩
  obtain ⟨A2, c2, rfl, hrow2⟩ := own_row hF2.own
  have hb2 := hF2.bel
  rw [HR.out] at hrow2 ⊢
  clear hF2
  have hbw2 := hb1.trans (hb2.mono hb1.size)
  go_wp2_with fail
  (with_reducible refine (law_known w2).mono ?_)
  rintro e w3 ⟨rfl, hb3⟩
  have hbw3 := hbw2.trans (hb3.mono hbw2.size)
  have hr1 := (hrow1.below hb2).below hb3
  have hr2 := hrow2.below hb3
  clear hrow1 hrow2
  go_wp2_with fail
  (with_reducible refine (law_of A1 r.1 c1 w3 hr1 (by omega)).mono ?_)
  rintro e w4 ⟨v4, rfl, hF4⟩
  obtain ⟨A4, c4, rfl, hrow4⟩ := own_row hF4.own
  have hb4 := hF4.bel
  have hbw4 := hbw3.trans (hb4.mono hbw3.size)
  have hr4 := hr2.below hb4
  clear hF4
  go_wp2_with fail
  (with_reducible refine (ref_same A4 A2 r.1 r.1 c4 c2 w4 hrow4 hr4 (by omega) (by omega)).mono ?_)
  rintro e w5 ⟨rfl, hb5⟩
  have hbw5 := hbw4.trans (hb5.mono hbw4.size)
  simp only [decide_true]
  go_wp2_with fail
  go_ret
  exact ⟨ret_bool (by simp), hbw5⟩

set_option maxRecDepth 100000 in
theorem FieldParses_lifted (os : Os) (started : os.Started) (H : Type) (enc : TypeId × Value → H) :
    ReturnsInHanded {} Try.checked os 7 .any (Rows.fieldParsesSpec.pre6 enc Try.prog Try.f7 Rows.fieldParsesRow.domain false) (Rows.fieldParsesSpec.post enc Try.prog Try.f7 false true false false) := by
  refine returnsInHanded_of_change (C := Try.checked) own started (by kernel_rfl) Try.func7
    (ChangeSpec.witness6 (enc := enc) (C := Try.checked) false ⟨#[], #[.string ByteArray.empty], []⟩ 8 (by kernel_rfl) (by kernel_rfl) (by kernel_rfl) (by kernel_rfl)) ?_
  intro W base args ds gs before hval0 hW hcnd _
  have hval : ∀ (j : Nat) t v, Try.f7.params[j]? = some t → args[j]? = some v → Value.okWide Try.prog W .any base t v := hval0
  have hW' := hW
  obtain ⟨p, q, hA0, hV, rfl, hfz, hnd⟩ := hW
  have hplt : ∀ x ∈ p, x.block < W.heap.size := fun x hx => hW'.lt x (by simp [hx])
  have hA : DataW.TrodAll enc Try.prog W 0 (fun _ => true) true Try.f7.params.toList args.toList ds p := hA0
  rw [Try.params7] at hA hval
  obtain ⟨v0, vs0, d0, ds0, p0, q0, hargs, rfl, rfl, h0, r0⟩ := trodAll_cons hA
  obtain ⟨rfl, rfl, rfl⟩ := trodAll_nil r0
  obtain rfl : args = #[v0] := by cases args; simp_all
  obtain ⟨rfl, rfl⟩ := trodVars_none hV
  obtain ⟨a0, rfl, rfl, rfl, w0⟩ := open_string Try.underlying9 (hval 0 9 v0 rfl rfl) h0
  refine (FieldParses_walk a0 w0 W).mono fun e W' ⟨he, hg⟩ => ?_
  subst he
  exact ⟨_, rfl, law_post hW' rfl rfl rfl (by decide +kernel) hg⟩

theorem FieldParses_over : Rows.fieldParsesRow.holds Try.pinned (OpenSpec.ofChange Rows.fieldParsesSpec) :=
  OpenClaim.holds_of_wide 7 Try.f7 rfl rfl rfl rfl rfl rfl rfl ⟨rfl, rfl, rfl, rfl, rfl⟩ rfl rfl rfl rfl rfl (by kernel_rfl) Try.func7 (by kernel_rfl)
    (of_decide_eq_true (by kernel_rfl)) (by unfold Func.isWrapper; first | (rw [if_pos (by decide +kernel)]; kernel_rfl) | (rw [if_neg (by decide +kernel)]; exact ⟨rfl, rfl⟩))
    (fun os started H enc _ => FieldParses_lifted os started H enc)

theorem FieldParses_proved : Rows.FieldParsesSaid := FieldParses_over

end Go.Proofs.Ytaigbplfbfaghaa
