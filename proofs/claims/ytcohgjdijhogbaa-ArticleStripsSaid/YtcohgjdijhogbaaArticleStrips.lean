/- For every string and every level, ArticleStrips returns true: the chapter's examples hold, Strip answers as the reference on the first 3000 bytes, and stripping level 1 of a quoted body leaves nothing. No condition. -/
import Derived.Test.YtcohgjdijhogbaaPt22
import Derived.Test.YtcohgjdijhogbaaRefQ
import Derived.Test.YtcohgjdijhogbaaStripQ
import Derived.Test.YtcohgjdijhogbaaPt23
import Derived.HandedShaped
namespace Go.Proofs.Ytcohgjdijhogbaa
set_option linter.unusedSimpArgs false
set_option linter.unusedVariables false
open Go.ChangeShapes Go.WideShapes Go.ChangeAt Go.RowKit
open Go.ChangeMaps (open_string shut_string)

set_option maxHeartbeats 4000000 in
set_option maxRecDepth 100000 in
theorem ArticleStrips_walk (a : ByteArray) (ha : a.size ≤ maxLen) (lev : Int) (hlev : (Lit.int .i64 lev).wf = true) (w : World) (hsh : w.ShapedOpen Try.prog) :
    Calls Try.prog 8 #[.string a, .int .i64 lev] w fun e w' => e = .returned (.bool true) ∧ Below w.heap.size w w' := by
  have HSH := Lib.hid hsh; clear hsh
  have HS := Lib.hid (fun wx => law_short a ha 3000 3000 rfl wx (by omega))
  have hx := short_size a 3000
  generalize a.extract 0 (min a.size 3000) = x at *
  have HA := Lib.hid (fun wx hw => art_strip x lev wx hw (by omega))
  have HN := Lib.hid (fun wx => rf_strip x lev wx (by omega))
  have HQ := Lib.hid (fun wx hw => art_quote x wx hw (by omega))
  have hql := quo_len (toL x)
  rw [toL_length] at hql
  have HSQ := Lib.hid (fun h => strip_quo (L := toL x) h)
  obtain ⟨q, hq⟩ : ∃ q, q = ofL (quoF (toL x)).1 := ⟨_, rfl⟩
  have hqs : q.size ≤ 10000 := by rw [hq, ofL_size]; omega
  have HSS := Lib.hid (fun wx hw => art_strip q 1 wx hw hqs)
  rw [show toL q = (quoF (toL x)).1 from by rw [hq, toL_ofL]] at HSS
  rw [← hq] at HQ
  clear hq hql hqs
  generalize quoF (toL x) = qf at *
  obtain ⟨ql, qe⟩ := qf
  simp only at HQ HSS HSQ
  generalize strF (toL x) lev = sf at *
  obtain ⟨st, se⟩ := sf
  simp only at HA HN
  generalize ofL st = T at *
  have g1 : (T.toList != T.toList) = false := by simp [bne]
  have g2 : (se != se) = false := by simp [bne]
  go_enter Try.func8, Try.ntmps8
  go_wp2_with ((go_at_call 10; (with_reducible refine (HS.out _).mono ?_); rintro e w' ⟨rfl, rfl⟩))
  (with_reducible refine (HA.out _ HSH.out).mono ?_)
  rintro e w1 ⟨rfl, hb1⟩
  have HB1 := Lib.hid hb1; clear hb1
  go_wp2_with fail
  (with_reducible refine (HN.out _).mono ?_)
  rintro e w2 ⟨rfl, hb2⟩
  have HB2 := Lib.hid (HB1.out.trans (hb2.mono HB1.out.size)); clear hb2
  go_wp2_with fail
  (with_reducible refine (art_known w2 (shaped_below HSH.out HB2.out)).mono ?_)
  rintro e w3 ⟨rfl, hb3⟩
  have HB3 := Lib.hid (HB2.out.trans (hb3.mono HB2.out.size)); clear hb3
  go_wp2_with fail
  (with_reducible refine (HQ.out _ (shaped_below HSH.out HB3.out)).mono ?_)
  rintro e w4 ⟨rfl, hb4⟩
  have HB4 := Lib.hid (HB3.out.trans (hb4.mono HB3.out.size)); clear hb4
  go_wp2_with fail
  (with_reducible refine (HSS.out _ (shaped_below HSH.out HB4.out)).mono ?_)
  rintro e w5 ⟨rfl, hb5⟩
  have HB5 := Lib.hid (HB4.out.trans (hb5.mono HB4.out.size)); clear hb5
  by_cases he : qe = 0
  · subst he
    have hs := HSQ.out rfl
    rw [hs, show ofL (([], 0) : List UInt8 × Int).1 = (⟨#[]⟩ : ByteArray) from rfl]
    clear hs HSQ
    go_wp2_with fail
    go_ret
    exact ⟨ret_bool (by rfl), HB5.out⟩
  · have e1 : (qe != 0) = true := by simp [bne, he]
    clear he HSQ
    generalize strF ql 1 = rf at *
    obtain ⟨ro, re⟩ := rf
    simp only
    go_wp2_with fail
    go_ret
    exact ⟨ret_bool (by rfl), HB5.out⟩

set_option maxRecDepth 100000 in
theorem ArticleStrips_lifted (os : Os) (started : os.Started) (H : Type) (enc : TypeId × Value → H) :
    ReturnsInHanded {} Try.checked os 8 .any (Rows.articleStripsSpec.pre6 enc Try.prog Try.f8 Rows.articleStripsRow.domain false) (Rows.articleStripsSpec.post enc Try.prog Try.f8 false true false false) := by
  refine returnsInHanded_of_change_shaped (C := Try.checked) own started (by kernel_rfl) Try.func8
    (ChangeSpec.witness6 (enc := enc) (C := Try.checked) false ⟨#[], #[.string ByteArray.empty, .int .i64 0], []⟩ 8 (by kernel_rfl) (by kernel_rfl) (by kernel_rfl) (by kernel_rfl)) ?_
  intro W base args ds gs before hval0 hW hcnd _ hsh _
  have hval : ∀ (j : Nat) t v, Try.f8.params[j]? = some t → args[j]? = some v → Value.okWide Try.prog W .any base t v := hval0
  have hW' := hW
  obtain ⟨p, q, hA0, hV, rfl, hfz, hnd⟩ := hW
  have hplt : ∀ x ∈ p, x.block < W.heap.size := fun x hx => hW'.lt x (by simp [hx])
  have hA : DataW.TrodAll enc Try.prog W 0 (fun _ => true) true Try.f8.params.toList args.toList ds p := hA0
  rw [Try.params8] at hA hval
  obtain ⟨v0, vs0, d0, ds0, p0, q0, hargs, rfl, rfl, h0, r0⟩ := trodAll_cons hA
  obtain ⟨v1, vs1, d1, ds1, p1, q1, rfl, rfl, rfl, h1, r1⟩ := trodAll_cons r0
  obtain ⟨rfl, rfl, rfl⟩ := trodAll_nil r1
  obtain rfl : args = #[v0, v1] := by cases args; simp_all
  obtain ⟨rfl, rfl⟩ := trodVars_none hV
  obtain ⟨a0, rfl, rfl, rfl, w0⟩ := open_string Try.underlying9 (hval 0 9 v0 rfl rfl) h0
  obtain ⟨a1, rfl, rfl, rfl, w1⟩ := open_int Try.underlying3 (hval 1 3 v1 rfl rfl) h1
  refine (ArticleStrips_walk a0 w0 a1 w1 W hsh).mono fun e W' ⟨he, hg⟩ => ?_
  subst he
  exact ⟨_, rfl, law_post hW' rfl rfl rfl (by decide +kernel) hg⟩

theorem ArticleStrips_over : Rows.articleStripsRow.holds Try.pinned (OpenSpec.ofChange Rows.articleStripsSpec) :=
  OpenClaim.holds_of_wide 8 Try.f8 rfl rfl rfl rfl rfl rfl rfl ⟨rfl, rfl, rfl, rfl, rfl⟩ rfl rfl rfl rfl rfl (by kernel_rfl) Try.func8 (by kernel_rfl)
    (of_decide_eq_true (by kernel_rfl)) (by unfold Func.isWrapper; first | (rw [if_pos (by decide +kernel)]; kernel_rfl) | (rw [if_neg (by decide +kernel)]; exact ⟨rfl, rfl⟩))
    (fun os started H enc _ => ArticleStrips_lifted os started H enc)

theorem ArticleStrips_proved : Rows.ArticleStripsSaid := ArticleStrips_over
end Go.Proofs.Ytcohgjdijhogbaa
