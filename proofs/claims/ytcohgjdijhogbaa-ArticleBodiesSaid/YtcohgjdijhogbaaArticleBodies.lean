/- For every string, ArticleBodies returns true: the chapter's examples hold, and CheckBody answers as the reference on the first 4000 bytes. No condition. -/
import Derived.Test.YtcohgjdijhogbaaPt22
import Derived.Test.YtcohgjdijhogbaaPt23
import Derived.HandedShaped
namespace Go.Proofs.Ytcohgjdijhogbaa
set_option linter.unusedSimpArgs false
set_option linter.unusedVariables false
open Go.ChangeShapes Go.WideShapes Go.ChangeAt Go.RowKit
open Go.ChangeMaps (open_string shut_string)

set_option maxHeartbeats 4000000 in
set_option maxRecDepth 100000 in
theorem ArticleBodies_walk (a : ByteArray) (ha : a.size ≤ maxLen) (w : World) (hsh : w.ShapedOpen Try.prog) :
    Calls Try.prog 3 #[.string a] w fun e w' => e = .returned (.bool true) ∧ Below w.heap.size w w' := by
  have HSH := Lib.hid hsh; clear hsh
  have HS := Lib.hid (fun wx => law_short a ha 4000 4000 rfl wx (by omega))
  have hx := short_size a 4000
  generalize a.extract 0 (min a.size 4000) = x at *
  have HA := Lib.hid (fun wx hw => art_body x wx hw (by omega))
  have HN := Lib.hid (fun wx => rf_body x wx (by omega))
  generalize bodyF (toL x) = b at *
  obtain ⟨bn, be⟩ := b
  simp only at HA HN
  go_enter Try.func3, Try.ntmps3
  go_wp2_with ((go_at_call 10; (with_reducible refine (HS.out _).mono ?_); rintro e w' ⟨rfl, rfl⟩))
  (with_reducible refine (HA.out _ HSH.out).mono ?_)
  rintro e w1 ⟨rfl, hb1⟩
  have HB1 := Lib.hid hb1; clear hb1
  go_wp2_with fail
  (with_reducible refine (HN.out _).mono ?_)
  rintro e w2 ⟨rfl, hb2⟩
  have HB2 := Lib.hid (HB1.out.trans (hb2.mono HB1.out.size)); clear hb2
  go_wp2_with fail
  (with_reducible refine (art_known w2 (shaped_below HSH.out HB2.out)).mono ?_)
  rintro e w3 ⟨rfl, hb3⟩
  have HB3 := Lib.hid (HB2.out.trans (hb3.mono HB2.out.size)); clear hb3
  go_wp2_with fail
  go_ret
  exact ⟨ret_bool (by simp), HB3.out⟩

set_option maxRecDepth 100000 in
theorem ArticleBodies_lifted (os : Os) (started : os.Started) (H : Type) (enc : TypeId × Value → H) :
    ReturnsInHanded {} Try.checked os 3 .any (Rows.articleBodiesSpec.pre6 enc Try.prog Try.f3 Rows.articleBodiesRow.domain false) (Rows.articleBodiesSpec.post enc Try.prog Try.f3 false true false false) := by
  refine returnsInHanded_of_change_shaped (C := Try.checked) own started (by kernel_rfl) Try.func3
    (ChangeSpec.witness6 (enc := enc) (C := Try.checked) false ⟨#[], #[.string ByteArray.empty], []⟩ 8 (by kernel_rfl) (by kernel_rfl) (by kernel_rfl) (by kernel_rfl)) ?_
  intro W base args ds gs before hval0 hW hcnd _ hsh _
  have hval : ∀ (j : Nat) t v, Try.f3.params[j]? = some t → args[j]? = some v → Value.okWide Try.prog W .any base t v := hval0
  have hW' := hW
  obtain ⟨p, q, hA0, hV, rfl, hfz, hnd⟩ := hW
  have hplt : ∀ x ∈ p, x.block < W.heap.size := fun x hx => hW'.lt x (by simp [hx])
  have hA : DataW.TrodAll enc Try.prog W 0 (fun _ => true) true Try.f3.params.toList args.toList ds p := hA0
  rw [Try.params3] at hA hval
  obtain ⟨v0, vs0, d0, ds0, p0, q0, hargs, rfl, rfl, h0, r0⟩ := trodAll_cons hA
  obtain ⟨rfl, rfl, rfl⟩ := trodAll_nil r0
  obtain rfl : args = #[v0] := by cases args; simp_all
  obtain ⟨rfl, rfl⟩ := trodVars_none hV
  obtain ⟨a0, rfl, rfl, rfl, w0⟩ := open_string Try.underlying9 (hval 0 9 v0 rfl rfl) h0
  refine (ArticleBodies_walk a0 w0 W hsh).mono fun e W' ⟨he, hg⟩ => ?_
  subst he
  exact ⟨_, rfl, law_post hW' rfl rfl rfl (by decide +kernel) hg⟩

theorem ArticleBodies_over : Rows.articleBodiesRow.holds Try.pinned (OpenSpec.ofChange Rows.articleBodiesSpec) :=
  OpenClaim.holds_of_wide 3 Try.f3 rfl rfl rfl rfl rfl rfl rfl ⟨rfl, rfl, rfl, rfl, rfl⟩ rfl rfl rfl rfl rfl (by kernel_rfl) Try.func3 (by kernel_rfl)
    (of_decide_eq_true (by kernel_rfl)) (by unfold Func.isWrapper; first | (rw [if_pos (by decide +kernel)]; kernel_rfl) | (rw [if_neg (by decide +kernel)]; exact ⟨rfl, rfl⟩))
    (fun os started H enc _ => ArticleBodies_lifted os started H enc)

theorem ArticleBodies_proved : Rows.ArticleBodiesSaid := ArticleBodies_over
end Go.Proofs.Ytcohgjdijhogbaa
