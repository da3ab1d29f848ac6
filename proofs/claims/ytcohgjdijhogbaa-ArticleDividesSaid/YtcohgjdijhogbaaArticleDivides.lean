/- For every string, ArticleDivides returns true: the chapter's examples hold, Divide answers as the reference on the first 2000 bytes, and both parts and the separating line are the text. No condition. -/
import Derived.Test.YtcohgjdijhogbaaPt22
import Derived.Test.YtcohgjdijhogbaaDivW
import Derived.Test.YtcohgjdijhogbaaRefD
import Derived.Test.YtcohgjdijhogbaaPt23
import Derived.HandedShaped
namespace Go.Proofs.Ytcohgjdijhogbaa
set_option linter.unusedSimpArgs false
set_option linter.unusedVariables false
open Go.ChangeShapes Go.WideShapes Go.ChangeAt Go.RowKit
open Go.ChangeMaps (open_string shut_string)

set_option maxHeartbeats 16000000 in
set_option maxRecDepth 100000 in
theorem ArticleDivides_walk (a : ByteArray) (ha : a.size ≤ maxLen) (w : World) (hsh : w.ShapedOpen Try.prog) :
    Calls Try.prog 7 #[.string a] w fun e w' => e = .returned (.bool true) ∧ Below w.heap.size w w' := by
  have HSH := Lib.hid hsh; clear hsh
  have HS := Lib.hid (fun wx => law_short a ha 2000 2000 rfl wx (by omega))
  have hx := short_size a 2000
  generalize a.extract 0 (min a.size 2000) = x at *
  have HA := Lib.hid (fun wx hw => art_divide x wx hw (by omega))
  have HN := Lib.hid (fun wx => rf_divide x wx (by omega))
  have hp := div_parts (toL x)
  obtain ⟨A, hA⟩ : ∃ A, A = ofL (divF (toL x)).1 := ⟨_, rfl⟩
  obtain ⟨B, hB⟩ : ∃ B, B = ofL (divF (toL x)).2 := ⟨_, rfl⟩
  have hA2 : (divF (toL x)).1 = toL A := by rw [hA, toL_ofL]
  have hB2 : (divF (toL x)).2 = toL B := by rw [hB, toL_ofL]
  have key : ((A.toList == x.toList) = true ∧ B.toList = []) ∨ ((((A ++ ⟨#[45, 45, 32, 10]⟩) ++ B).toList == x.toList) = true) ∨ (((A ++ ⟨#[45, 45, 32]⟩).toList == x.toList) = true ∧ B.toList = []) := by
    rcases hp with h | h | ⟨h, h2⟩
    · refine .inl ⟨?_, ?_⟩
      · rw [beq_toList]; exact decide_eq_true (by rw [← hA2, h])
      · rw [ByteArray.toList_eq]; show toL B = []; rw [← hB2, h]
    · refine .inr (.inl ?_)
      rw [hA2, hB2] at h
      rw [beq_toList]; refine decide_eq_true ?_
      rw [← h]; simp [toL]
    · refine .inr (.inr ⟨?_, ?_⟩)
      · rw [hA2] at h
        rw [beq_toList]; refine decide_eq_true ?_
        rw [← h]; simp [toL]
      · rw [ByteArray.toList_eq]; show toL B = []; rw [← hB2, h2]
  have hln := div_len (toL x)
  rw [toL_length] at hln
  have hAs : A.size ≤ 3000 := by rw [hA, ofL_size]; omega
  have hBs : B.size ≤ 3000 := by rw [hB, ofL_size]; omega
  clear hln
  rw [← hA, ← hB] at HA HN
  clear hA hB hA2 hB2 hp
  have g1 : (A.toList == A.toList) = true := by simp
  have g2 : (B.toList == B.toList) = true := by simp
  have HKEY := Lib.hid key
  clear key
  go_enter Try.func7, Try.ntmps7
  go_wp2_with ((go_at_call 10; (with_reducible refine (HS.out _).mono ?_); rintro e w' ⟨rfl, rfl⟩))
  (with_reducible refine (HA.out _ HSH.out).mono ?_)
  rintro e w1 ⟨rfl, hb1⟩
  have HB1 := Lib.hid hb1; clear hb1
  go_wp2_with fail
  (with_reducible refine (HN.out _).mono ?_)
  rintro e w2 ⟨rfl, nd, hw2⟩
  have HB2 := Lib.hid (show Below w.heap.size w w2 from by rw [hw2]; exact below_drewN HB1.out nd)
  clear hw2
  go_wp2_with fail
  (with_reducible refine (art_known w2 (shaped_below HSH.out HB2.out)).mono ?_)
  rintro e w3 ⟨rfl, hb3⟩
  have HB3 := Lib.hid (HB2.out.trans (hb3.mono HB2.out.size)); clear hb3
  have hkey := HKEY.out
  have hBB : B.toList = [] ∨ B.toList.isEmpty = false := by
    by_cases h : B.size = 0
    · exact .inl (toList_nil h)
    · exact .inr (toList_cons h)
  have HB3' := HB3
  rcases t1 : (A.toList == x.toList) with _ | _
  all_goals
    rcases t3 : (((A ++ ⟨#[45, 45, 32, 10]⟩) ++ B).toList == x.toList) with _ | _
    all_goals
      rcases t4 : ((A ++ ⟨#[45, 45, 32]⟩).toList == x.toList) with _ | _
      all_goals
        rcases hBB with b2 | b2
        all_goals
          first
          | (exfalso; rw [t1, t3, t4] at hkey; simp at hkey; done)
          | (exfalso; rw [t1, t3, t4] at hkey; simp at hkey; rw [hkey] at b2; simp at b2; done)
          | (clear hkey
             go_wp2_with fail
             go_ret
             exact ⟨ret_bool (by rfl), HB3.out⟩)

set_option maxRecDepth 100000 in
theorem ArticleDivides_lifted (os : Os) (started : os.Started) (H : Type) (enc : TypeId × Value → H) :
    ReturnsInHanded {} Try.checked os 7 .any (Rows.articleDividesSpec.pre6 enc Try.prog Try.f7 Rows.articleDividesRow.domain false) (Rows.articleDividesSpec.post enc Try.prog Try.f7 false true false false) := by
  refine returnsInHanded_of_change_shaped (C := Try.checked) own started (by kernel_rfl) Try.func7
    (ChangeSpec.witness6 (enc := enc) (C := Try.checked) false ⟨#[], #[.string ByteArray.empty], []⟩ 8 (by kernel_rfl) (by kernel_rfl) (by kernel_rfl) (by kernel_rfl)) ?_
  intro W base args ds gs before hval0 hW hcnd _ hsh _
  have hval : ∀ (j : Nat) t v, Try.f7.params[j]? = some t → args[j]? = some v → Value.okWide Try.prog W .any base t v := hval0
  have hW' := hW
  obtain ⟨p, q, hA0, hV, rfl, hfz, hnd⟩ := hW
  have hplt : ∀ x ∈ p, x.block < W.heap.size := fun x hx => hW'.lt x (by simp [hx])
  have hA : DataW.TrodAll enc Try.prog W 0 (fun _ => true) true Try.f7.params.toList args.toList ds p := hA0
  rw [Try.params7] at hA hval
  obtain ⟨v0, vs0, d0, ds0, p0, q0, hargs, rfl, rfl, h0, r0⟩ := trodAll_cons hA
  obtain ⟨rfl, rfl, rfl⟩ := trodAll_nil r0
  obtain rfl : args = #[v0] := by cases args; simp_all
  obtain ⟨rfl, rfl⟩ := trodVars_none hV
  obtain ⟨a0, rfl, rfl, rfl, w0⟩ := open_string Try.underlying9 (hval 0 9 v0 rfl rfl) h0
  refine (ArticleDivides_walk a0 w0 W hsh).mono fun e W' ⟨he, hg⟩ => ?_
  subst he
  exact ⟨_, rfl, law_post hW' rfl rfl rfl (by decide +kernel) hg⟩

theorem ArticleDivides_over : Rows.articleDividesRow.holds Try.pinned (OpenSpec.ofChange Rows.articleDividesSpec) :=
  OpenClaim.holds_of_wide 7 Try.f7 rfl rfl rfl rfl rfl rfl rfl ⟨rfl, rfl, rfl, rfl, rfl⟩ rfl rfl rfl rfl rfl (by kernel_rfl) Try.func7 (by kernel_rfl)
    (of_decide_eq_true (by kernel_rfl)) (by unfold Func.isWrapper; first | (rw [if_pos (by decide +kernel)]; kernel_rfl) | (rw [if_neg (by decide +kernel)]; exact ⟨rfl, rfl⟩))
    (fun os started H enc _ => ArticleDivides_lifted os started H enc)

theorem ArticleDivides_proved : Rows.ArticleDividesSaid := ArticleDivides_over
end Go.Proofs.Ytcohgjdijhogbaa
