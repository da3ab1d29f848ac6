/- For every string, FieldCanonical returns true: what was parsed is valid, and its text gives the same fields. No condition. -/
import Derived.Test.YtaigbplfbfaghaaFieldPrints
import Derived.Test.YtaigbplfbfaghaaFieldParses
import Derived.Test.YtaigbplfbfaghaaCanonP
namespace Go.Proofs.Ytaigbplfbfaghaa
set_option linter.unusedSimpArgs false
set_option linter.unusedVariables false
open Go.ChangeShapes Go.WideShapes Go.ChangeAt Go.RowKit
open Go.ChangeMaps (open_string shut_string)

theorem good_mild (l : List Fd) (h : ∀ f ∈ l, GoodF f) (h6 : l.length ≤ 64) : Mild l := by
  refine ⟨by omega, fun f hf => ⟨?_, ?_⟩⟩
  · have := (h f hf).name
    cases hn : f.1 with
    | nil => simp
    | cons c r => rw [hn] at this; simp [validName] at this; simp; omega
  · have := (h f hf).len; omega

set_option maxHeartbeats 2000000 in
set_option maxRecDepth 100000 in
theorem FieldCanonical_walk (a : ByteArray) (ha : a.size ≤ maxLen) (w : World) :
    Calls Try.prog 8 #[.string a] w fun e w' => e = .returned (.bool true) ∧ Below w.heap.size w w' := by
  unfold maxLen at ha
  go_enter Try.func8, Try.ntmps8
  go_wp2_with fail
  have hx : (a.extract 0 (min (a.size : Int) 70000).toNat).size ≤ 70000 := by rw [extract_size _ _ _ (by omega)]; omega
  generalize a.extract 0 (min (a.size : Int) 70000).toNat = x at *
  (with_reducible refine (fld_parse x w (by omega)).mono ?_)
  rintro e w1 ⟨v1, rfl, hown1, hb1⟩
  obtain ⟨A1, c1, rfl, hrow1⟩ := own_row hown1
  have HLEN := Lib.hid (parseF_len (toL x))
  have HG := Lib.hid (parse_good (toL x))
  have HBAD := Lib.hid (parse_bad (toL x))
  have HPP := Lib.hid (print_parsed (toL x))
  obtain ⟨⟨m, at0, e0⟩, hr⟩ : ∃ r, parseF (toL x) = r := ⟨_, rfl⟩
  rw [hr] at HLEN HG HBAD HPP hrow1 ⊢
  clear hown1 hr
  have hlen := HLEN.out
  simp only at hrow1 hlen ⊢
  by_cases h0 : e0 = 0
  · subst h0
    have HGOOD := Lib.hid (HG.out rfl).1
    have HMILD := Lib.hid (good_mild m HGOOD.out hlen)
    have HP := Lib.hid (HPP.out rfl hlen)
    clear HG HBAD HPP HLEN
    go_wp2_with fail
    go_loopg [6] m.length (fun g ix wr => ∃ k : Nat, g = m.length - k ∧ k ≤ m.length ∧ ix = .int .i64 k ∧ Below w1.heap.size w1 wr)
    case atStart => exact ⟨0, by omega, by omega, rfl, Below.refl _ _⟩
    case round =>
      obtain ⟨k, rfl, hk, rfl, hB⟩ := hrel
      by_cases hlt : k < m.length
      · have hk1 : (0 : Int) ≤ (k : Int) := by omega
        have hk2 : (k : Int) < (m.length : Int) := by omega
        obtain ⟨bb, off, rfl, hbb, _⟩ := hrow1.at (k := 0) (by rw [fldsV_length]; omega)
        obtain ⟨n, hn⟩ : ∃ n, ofL m[k].1 = n := ⟨_, rfl⟩
        obtain ⟨b, hb⟩ : ∃ b, ofL m[k].2 = b := ⟨_, rfl⟩
        obtain ⟨hc1, hc2⟩ := (hrow1.below hB).field' hlt hn hb
        have hnL : m[k].1 = toL n := by rw [← hn, toL_ofL]
        have hbL : m[k].2 = toL b := by rw [← hb, toL_ofL]
        have hm : m[k].1.length ≤ 1000000 ∧ m[k].2.length ≤ 1000000 := HMILD.out.2 m[k] (List.getElem_mem hlt)
        have hck : checkF m[k].1 m[k].2 = 0 := good_check m[k].1 m[k].2 (HGOOD.out m[k] (List.getElem_mem hlt))
        rw [hnL, hbL] at hm hck
        rw [toL_length, toL_length] at hm
        obtain ⟨hm1, hm2⟩ := hm
        have HCK := Lib.hid hck
        clear hn hb hnL hbL hck
        go_wp2_with fail
        (with_reducible refine (fld_check n b wr hm1 hm2).mono ?_)
        rintro e w2 ⟨rfl, hb2⟩
        rw [HCK.out]
        go_wp2_with fail
        go_roundg (m.length - (k + 1))
        case measure => omega
        case rel => exact ⟨k + 1, rfl, by omega, by go_num, hB.trans (hb2.mono hB.size)⟩
      · have hbw := hb1.trans (hB.mono hb1.size)
        have hr1 := hrow1.below hB
        clear hrow1
        go_wp2_with fail
        (with_reducible refine (fld_print A1 m c1 wr hr1 HMILD.out).mono ?_)
        rintro e w3 ⟨rfl, hb3⟩
        have hbw3 := hbw.trans (hb3.mono hbw.size)
        have hr3 := hr1.below hb3
        clear hr1
        obtain ⟨y, hy⟩ : ∃ y, ofL (printF m).1 = y := ⟨_, rfl⟩
        obtain ⟨pe, hpe⟩ : ∃ pe, (printF m).2 = pe := ⟨_, rfl⟩
        have HY := Lib.hid (show (printF m).1 = toL y by rw [← hy, toL_ofL])
        rw [hy]
        rw [hpe] at HP ⊢
        have HPE := Lib.hid hpe
        clear hy hpe
        by_cases h5 : pe = 0
        · subst h5
          have HPX := Lib.hid (show parseF (toL y) = (m, 0, 0) by rw [← HY.out]; exact parse_printF m HPE.out)
          have hys : y.size ≤ 65536 := by
            have := (printF_ok m HPE.out).2.2.2
            rw [HY.out, toL_length] at this; exact this
          go_wp2_with fail
          (with_reducible refine (fld_parse y w3 (by omega)).mono ?_)
          rintro e w5 ⟨v5, rfl, hown5, hb5⟩
          rw [HPX.out] at hown5 ⊢
          obtain ⟨A5, c5, rfl, hrow5⟩ := own_row hown5
          simp only at hrow5 ⊢
          have hbw5 := hbw3.trans (hb5.mono hbw3.size)
          have hr5 := hr3.below hb5
          clear hr3 hown5
          go_wp2_with fail
          (with_reducible refine (law_known w5).mono ?_)
          rintro e w6 ⟨rfl, hb6⟩
          have hbw6 := hbw5.trans (hb6.mono hbw5.size)
          have hr6 := hr5.below hb6
          have hrow6 := hrow5.below hb6
          clear hr5 hrow5
          go_wp2_with fail
          (with_reducible refine (law_of A5 m c5 w6 hrow6 (by omega)).mono ?_)
          rintro e w7 ⟨v7, rfl, hF7⟩
          obtain ⟨A7, c7, rfl, hrow7⟩ := own_row hF7.own
          have hb7 := hF7.bel
          have hbw7 := hbw6.trans (hb7.mono hbw6.size)
          have hr7 := hr6.below hb7
          clear hF7 hr6 hrow6
          go_wp2_with fail
          (with_reducible refine (law_of A1 m c1 w7 hr7 (by omega)).mono ?_)
          rintro e w8 ⟨v8, rfl, hF8⟩
          obtain ⟨A8, c8, rfl, hrow8⟩ := own_row hF8.own
          have hb8 := hF8.bel
          have hbw8 := hbw7.trans (hb8.mono hbw7.size)
          have hr8 := hrow7.below hb8
          clear hF8 hr7 hrow7
          go_wp2_with fail
          (with_reducible refine (ref_same A7 A8 m m c7 c8 w8 hr8 hrow8 (by omega) (by omega)).mono ?_)
          rintro e w9 ⟨rfl, hb9⟩
          have hbw9 := hbw8.trans (hb9.mono hbw8.size)
          simp only [decide_true]
          go_wp2_with fail
          go_ret
          exact ⟨ret_bool (by simp), hbw9⟩
        · obtain ⟨h5', h3⟩ := HP.out.resolve_left h5
          subst h5'
          rw [toL_length] at h3
          have h3' : decide ((32768 : Int) < (x.size : Int)) = true := by simp; omega
          go_wp2_with fail
          (with_reducible refine (law_known w3).mono ?_)
          rintro e w5 ⟨rfl, hb5⟩
          go_wp2_with fail
          go_ret
          exact ⟨ret_bool (by simp [h3']), hbw3.trans (hb5.mono hbw3.size)⟩
  · have h0' : (e0 != 0) = true := by simpa using h0
    have hm0 : m = [] := HBAD.out h0
    subst hm0
    clear h0 HG HBAD HPP HLEN
    go_wp2_with fail
    (with_reducible refine (law_known w1).mono ?_)
    rintro e w5 ⟨rfl, hb5⟩
    go_wp2_with fail
    go_ret
    exact ⟨ret_bool (by simp), hb1.trans (hb5.mono hb1.size)⟩

set_option maxRecDepth 100000 in
theorem FieldCanonical_lifted (os : Os) (started : os.Started) (H : Type) (enc : TypeId × Value → H) :
    ReturnsInHanded {} Try.checked os 8 .any (Rows.fieldCanonicalSpec.pre6 enc Try.prog Try.f8 Rows.fieldCanonicalRow.domain false) (Rows.fieldCanonicalSpec.post enc Try.prog Try.f8 false true false false) := by
  refine returnsInHanded_of_change (C := Try.checked) own started (by kernel_rfl) Try.func8
    (ChangeSpec.witness6 (enc := enc) (C := Try.checked) false ⟨#[], #[.string ByteArray.empty], []⟩ 8 (by kernel_rfl) (by kernel_rfl) (by kernel_rfl) (by kernel_rfl)) ?_
  intro W base args ds gs before hval0 hW hcnd _
  have hval : ∀ (j : Nat) t v, Try.f8.params[j]? = some t → args[j]? = some v → Value.okWide Try.prog W .any base t v := hval0
  have hW' := hW
  obtain ⟨p, q, hA0, hV, rfl, hfz, hnd⟩ := hW
  have hplt : ∀ x ∈ p, x.block < W.heap.size := fun x hx => hW'.lt x (by simp [hx])
  have hA : DataW.TrodAll enc Try.prog W 0 (fun _ => true) true Try.f8.params.toList args.toList ds p := hA0
  rw [Try.params8] at hA hval
  obtain ⟨v0, vs0, d0, ds0, p0, q0, hargs, rfl, rfl, h0, r0⟩ := trodAll_cons hA
  obtain ⟨rfl, rfl, rfl⟩ := trodAll_nil r0
  obtain rfl : args = #[v0] := by cases args; simp_all
  obtain ⟨rfl, rfl⟩ := trodVars_none hV
  obtain ⟨a0, rfl, rfl, rfl, w0⟩ := open_string Try.underlying9 (hval 0 9 v0 rfl rfl) h0
  refine (FieldCanonical_walk a0 w0 W).mono fun e W' ⟨he, hg⟩ => ?_
  subst he
  exact ⟨_, rfl, law_post hW' rfl rfl rfl (by decide +kernel) hg⟩

theorem FieldCanonical_over : Rows.fieldCanonicalRow.holds Try.pinned (OpenSpec.ofChange Rows.fieldCanonicalSpec) :=
  OpenClaim.holds_of_wide 8 Try.f8 rfl rfl rfl rfl rfl rfl rfl ⟨rfl, rfl, rfl, rfl, rfl⟩ rfl rfl rfl rfl rfl (by kernel_rfl) Try.func8 (by kernel_rfl)
    (of_decide_eq_true (by kernel_rfl)) (by unfold Func.isWrapper; first | (rw [if_pos (by decide +kernel)]; kernel_rfl) | (rw [if_neg (by decide +kernel)]; exact ⟨rfl, rfl⟩))
    (fun os started H enc _ => FieldCanonical_lifted os started H enc)

theorem FieldCanonical_proved : Rows.FieldCanonicalSaid := FieldCanonical_over

end Go.Proofs.Ytaigbplfbfaghaa
