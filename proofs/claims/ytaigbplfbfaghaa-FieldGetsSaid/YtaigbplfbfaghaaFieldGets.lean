/- For every list of fields, every name and every list of names, FieldGets returns true: Get, Names and Unknown agree with the reference. No condition. -/
import Derived.Test.YtaigbplfbfaghaaOpenS
import Derived.Test.YtaigbplfbfaghaaGets
namespace Go.Proofs.Ytaigbplfbfaghaa
set_option linter.unusedSimpArgs false
set_option linter.unusedVariables false
open Go.ChangeShapes Go.WideShapes Go.ChangeAt Go.RowKit
open Go.ChangeMaps (open_string shut_string)

theorem own_row_cap {w : World} {base : Nat} {e : TypeId} {size n : Nat} {v : Value} {xs : List Value} (h : w.ownsRow base e size v n xs) : ∃ A c, v = .slice A n c ∧ n ≤ c ∧ Row w A xs := by
  rcases own_form h with ⟨rfl, h0⟩ | ⟨g, cap, rfl, hg, hlt, hcap, hc⟩
  · refine ⟨none, 0, by rw [h0], by omega, .inl ?_⟩
    have := h.1
    rw [h0] at this
    exact List.eq_nil_of_length_eq_zero (by omega)
  · exact ⟨_, _, rfl, hcap, Row.mk _ _ _ _ hlt fun j v hv => by rw [Nat.zero_add]; exact hc j v hv⟩

set_option maxHeartbeats 4000000 in
set_option maxRecDepth 100000 in
theorem FieldGets_walk (A : Option Addr) (l : List Fd) (c : Nat) {w : World} (hr : Row w A (fldsV l)) (hl : Sized l) (a : ByteArray) (ha : a.size ≤ maxLen) (B : Option Addr) (s : List (List UInt8)) (d : Nat) (hq : Row w B (strsL s)) (hs : SizedS s d)  (_ : World) :
    Calls Try.prog 10 #[.slice A l.length c, .string a, .slice B s.length d] w fun e w' => e = .returned (.bool true) ∧ Below w.heap.size w w' := by
  have HM := Lib.hid (cutList_mild l)
  have HLen := Lib.hid (cutList_length l)
  have HC := Lib.hid (law_cut A l c w hr hl)
  obtain ⟨hs1, hs2, hs3⟩ := hs
  have HQ := Lib.hid (strs_take hq 20)
  have HS := Lib.hid (show (s.take 20).length ≤ 1000 ∧ ∀ x ∈ s.take 20, x.length ≤ maxLen from ⟨by simp; omega, fun x hx => hs3 x (List.mem_of_mem_take hx)⟩)
  have HK := Lib.hid (show (min (s.length : Int) 20).toNat = (s.take 20).length by simp; omega)
  clear hr hl hq hs3
  unfold maxLen at ha hs2
  go_enter Try.func10, Try.ntmps10
  go_wp2_with fail
  (with_reducible refine HC.out.mono ?_)
  rintro e w1 ⟨v1, rfl, hF1⟩
  obtain ⟨A1, c1, rfl, hcap1, hrow1⟩ := own_row_cap hF1.own
  have hb1 := hF1.bel
  have hlen : (cutList l).length ≤ 70 := by have := HLen.out; omega
  clear hF1 HC HLen
  have HR1 := Lib.hid hrow1; clear hrow1
  generalize cutList l = L at *
  have m1 : (0 : Int) ≤ min (s.length : Int) 20 := by omega
  have m2 : min (s.length : Int) 20 ≤ (d : Int) := by omega
  have m3 : (0 : Int) ≤ min (a.size : Int) 100 := by omega
  have m4 : min (a.size : Int) 100 ≤ (a.size : Int) := by omega
  have hx : (a.extract 0 (min (a.size : Int) 100).toNat).size ≤ 1000000 := by rw [extract_size _ _ _ (by omega)]; omega
  go_wp2_with fail
  rw [HK.out]
  generalize a.extract 0 (min (a.size : Int) 100).toNat = x at *
  generalize s.take 20 = t at *
  have HQ1 := Lib.hid (HQ.out.below hb1)
  clear HK HQ m1 m2 m3 m4 hs1 hs2 ha
  (with_reducible refine (law_to A1 L c1 w1 HR1.out hlen).mono ?_)
  rintro e w2 ⟨v2, rfl, hF2⟩
  obtain ⟨A2, c2, rfl, hrow2⟩ := own_row hF2.own
  have hb2 := hF2.bel
  have HX2 := Lib.hid hrow2
  have HR2 := Lib.hid (HR1.out.below hb2)
  have HQ2 := Lib.hid (HQ1.out.below hb2)
  have hw2 := hb1.trans (hb2.mono hb1.size)
  clear hF2 hrow2 HR1 HQ1 hb1 hb2
  go_wp2_with fail
  (with_reducible refine (fld_get A2 L c2 x w2 HX2.out HM.out hx).mono ?_)
  rintro e w3 ⟨rfl, hb3⟩
  have HX3 := Lib.hid (HX2.out.below hb3)
  have HR3 := Lib.hid (HR2.out.below hb3)
  have HQ3 := Lib.hid (HQ2.out.below hb3)
  have hw3 := hw2.trans (hb3.mono hw2.size)
  clear HX2 HR2 HQ2 hw2 hb3
  go_wp2_with fail
  (with_reducible refine (ref_get A1 L c1 x w3 HR3.out HM.out (le_maxLen hx)).mono ?_)
  rintro e w4 ⟨rfl, hb4⟩
  have HX4 := Lib.hid (HX3.out.below hb4)
  have HR4 := Lib.hid (HR3.out.below hb4)
  have HQ4 := Lib.hid (HQ3.out.below hb4)
  have hw4 := hw3.trans (hb4.mono hw3.size)
  clear HX3 HR3 HQ3 hw3 hb4
  generalize ofL (getB L (toL x)) = body at *
  generalize getN L (toL x) = n at *
  go_wp2_with fail
  (with_reducible refine (law_known w4).mono ?_)
  rintro e w5 ⟨rfl, hb5⟩
  have HX5 := Lib.hid (HX4.out.below hb5)
  have HR5 := Lib.hid (HR4.out.below hb5)
  have HQ5 := Lib.hid (HQ4.out.below hb5)
  have hw5 := hw4.trans (hb5.mono hw4.size)
  clear HX4 HR4 HQ4 hw4 hb5
  go_wp2_with fail
  (with_reducible refine (fld_names A2 L c2 w5 HX5.out HM.out).mono ?_)
  rintro e w6 ⟨v6, rfl, hF6⟩
  obtain ⟨A6, c6, rfl, hrow6⟩ := own_row hF6.own
  have hb6 := hF6.bel
  have HN6 := Lib.hid hrow6
  have HX6 := Lib.hid (HX5.out.below hb6)
  have HR6 := Lib.hid (HR5.out.below hb6)
  have HQ6 := Lib.hid (HQ5.out.below hb6)
  have hw6 := hw5.trans (hb6.mono hw5.size)
  clear HX5 HR5 HQ5 hw5 hb6 hF6 hrow6
  go_wp2_with fail
  (with_reducible refine (ref_names A1 L c1 w6 HR6.out HM.out hcap1).mono ?_)
  rintro e w7 ⟨v7, rfl, hF7⟩
  obtain ⟨A7, c7, rfl, hrow7⟩ := own_row hF7.own
  have hb7 := hF7.bel
  have HM7 := Lib.hid hrow7
  have HN7 := Lib.hid (HN6.out.below hb7)
  have HX7 := Lib.hid (HX6.out.below hb7)
  have HR7 := Lib.hid (HR6.out.below hb7)
  have HQ7 := Lib.hid (HQ6.out.below hb7)
  have hw7 := hw6.trans (hb7.mono hw6.size)
  clear HX6 HR6 HQ6 HN6 hw6 hb7 hF7 hrow7
  have hnl : (namesF L).length ≤ 1000000 := by have := namesF_len L []; simp [namesF] at this ⊢; omega
  go_wp2_with fail
  (with_reducible refine (refs_same A6 A7 (namesF L) (namesF L) c6 c7 w7 HN7.out HM7.out hnl hnl).mono ?_)
  rintro e w8 ⟨rfl, hb8⟩
  simp only [decide_true]
  have HX8 := Lib.hid (HX7.out.below hb8)
  have HR8 := Lib.hid (HR7.out.below hb8)
  have HQ8 := Lib.hid (HQ7.out.below hb8)
  have hw8 := hw7.trans (hb8.mono hw7.size)
  clear HX7 HR7 HQ7 HN7 HM7 hw7 hb8
  go_wp2_with fail
  (with_reducible refine (fld_unknown A2 B L t c2 d w8 HX8.out HQ8.out HM.out HS.out).mono ?_)
  rintro e w9 ⟨v9, rfl, hF9⟩
  obtain ⟨A9, c9, rfl, hrow9⟩ := own_row hF9.own
  have hb9 := hF9.bel
  have HR9 := Lib.hid (HR8.out.below hb9)
  have HQ9 := Lib.hid (HQ8.out.below hb9)
  have HU9 := Lib.hid hrow9
  have hw9 := hw8.trans (hb9.mono hw8.size)
  clear HX8 HR8 HQ8 hw8 hb9 hF9 hrow9
  have hul : (unknownF L t).length ≤ 70 := Nat.le_trans (List.length_filter_le _ _) hlen
  have HUL := Lib.hid hul; clear hul
  go_wp2_with fail
  (with_reducible refine (law_of A9 (unknownF L t) c9 w9 HU9.out (by have := HUL.out; omega)).mono ?_)
  rintro e w10 ⟨v10, rfl, hF10⟩
  obtain ⟨A10, c10, rfl, hrow10⟩ := own_row hF10.own
  have hb10 := hF10.bel
  have HR10 := Lib.hid (HR9.out.below hb10)
  have HQ10 := Lib.hid (HQ9.out.below hb10)
  have HU10 := Lib.hid hrow10
  have hw10 := hw9.trans (hb10.mono hw9.size)
  clear HR9 HQ9 HU9 hw9 hb10 hF10 hrow10
  go_wp2_with fail
  (with_reducible refine (ref_unknown A1 B L t c1 d w10 HR10.out HQ10.out HM.out HS.out).mono ?_)
  rintro e w11 ⟨v11, rfl, ⟨A11, c11, rfl, hrow11, hb11⟩⟩
  have HU11 := Lib.hid (HU10.out.below hb11)
  have HV11 := Lib.hid hrow11
  have hw11 := hw10.trans (hb11.mono hw10.size)
  clear HR10 HQ10 HU10 hw10 hb11 hrow11
  go_wp2_with fail
  (with_reducible refine (ref_same A10 A11 (unknownF L t) (unknownF L t) c10 c11 w11 HU11.out HV11.out (by have := HUL.out; omega) (by have := HUL.out; omega)).mono ?_)
  rintro e w12 ⟨rfl, hb12⟩
  simp only [decide_true]
  go_wp2_with fail
  go_ret
  exact ⟨ret_bool (by simp), hw11.trans (hb12.mono hw11.size)⟩

set_option maxRecDepth 100000 in
theorem FieldGets_lifted (os : Os) (started : os.Started) (H : Type) (enc : TypeId × Value → H) :
    ReturnsInHanded {} Try.checked os 10 .any (Rows.fieldGetsSpec.pre6 enc Try.prog Try.f10 Rows.fieldGetsRow.domain false) (Rows.fieldGetsSpec.post enc Try.prog Try.f10 false true false false) := by
  refine returnsInHanded_of_change (C := Try.checked) own started (by kernel_rfl) Try.func10
    (ChangeSpec.witness6 (enc := enc) (C := Try.checked) false ⟨#[], #[.slice none 0 0, .string ByteArray.empty, .slice none 0 0], []⟩ 8 (by kernel_rfl) (by kernel_rfl) (by kernel_rfl) (by kernel_rfl)) ?_
  intro W base args ds gs before hval0 hW hcnd _
  have hval : ∀ (j : Nat) t v, Try.f10.params[j]? = some t → args[j]? = some v → Value.okWide Try.prog W .any base t v := hval0
  have hW' := hW
  obtain ⟨p, q, hA0, hV, rfl, hfz, hnd⟩ := hW
  have hplt : ∀ x ∈ p, x.block < W.heap.size := fun x hx => hW'.lt x (by simp [hx])
  have hA : DataW.TrodAll enc Try.prog W 0 (fun _ => true) true Try.f10.params.toList args.toList ds p := hA0
  rw [Try.params10] at hA hval
  obtain ⟨v0, vs0, d0, ds0, p0, q0, hargs, rfl, rfl, h0, r0⟩ := trodAll_cons hA
  obtain ⟨v1, vs1, d1, ds1, p1, q1, rfl, rfl, rfl, h1, r1⟩ := trodAll_cons r0
  obtain ⟨v2, vs2, d2, ds2, p2, q2, rfl, rfl, rfl, h2, r2⟩ := trodAll_cons r1
  obtain ⟨rfl, rfl, rfl⟩ := trodAll_nil r2
  obtain rfl : args = #[v0, v1, v2] := by cases args; simp_all
  obtain ⟨rfl, rfl⟩ := trodVars_none hV
  obtain ⟨A0, l0, c0, hv0, hrow0, hsz0⟩ := open_flds Try.underlying26 Try.underlying25 (by kernel_rfl) (by kernel_rfl) rfl rfl Try.underlying9 (hval 0 26 v0 rfl rfl) h0
  subst hv0
  obtain ⟨a1, rfl, rfl, rfl, w1⟩ := open_string Try.underlying9 (hval 1 9 v1 rfl rfl) h1
  obtain ⟨A2, l2, c2, hv2, hrow2, hsz2⟩ := open_strs Try.underlying36 Try.underlying9 (by kernel_rfl) (hval 2 36 v2 rfl rfl) h2
  subst hv2
  refine (FieldGets_walk A0 l0 c0 hrow0 hsz0 a1 w1 A2 l2 c2 hrow2 hsz2 W).mono fun e W' ⟨he, hg⟩ => ?_
  subst he
  exact ⟨_, rfl, law_post hW' rfl rfl rfl (by decide +kernel) hg⟩

theorem FieldGets_over : Rows.fieldGetsRow.holds Try.pinned (OpenSpec.ofChange Rows.fieldGetsSpec) :=
  OpenClaim.holds_of_wide 10 Try.f10 rfl rfl rfl rfl rfl rfl rfl ⟨rfl, rfl, rfl, rfl, rfl⟩ rfl rfl rfl rfl rfl (by kernel_rfl) Try.func10 (by kernel_rfl)
    (of_decide_eq_true (by kernel_rfl)) (by unfold Func.isWrapper; first | (rw [if_pos (by decide +kernel)]; kernel_rfl) | (rw [if_neg (by decide +kernel)]; exact ⟨rfl, rfl⟩))
    (fun os started H enc _ => FieldGets_lifted os started H enc)

theorem FieldGets_proved : Rows.FieldGetsSaid := FieldGets_over

end Go.Proofs.Ytaigbplfbfaghaa
