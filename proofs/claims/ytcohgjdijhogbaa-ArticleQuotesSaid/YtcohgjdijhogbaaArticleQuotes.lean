/- For every string, ArticleQuotes returns true: the chapter's examples hold, Quote answers as the reference on the first 3000 bytes, and it raises the level of each line by 1 and leaves its rest. No condition. -/
import Derived.Test.YtcohgjdijhogbaaPt22
import Derived.Test.YtcohgjdijhogbaaRefQ2
import Derived.Test.YtcohgjdijhogbaaStripQ
import Derived.Test.YtcohgjdijhogbaaPt23
import Derived.HandedShaped
namespace Go.Proofs.Ytcohgjdijhogbaa
set_option linter.unusedSimpArgs false
set_option linter.unusedVariables false
open Go.ChangeShapes Go.WideShapes Go.ChangeAt Go.RowKit
open Go.ChangeMaps (open_string shut_string)

def AtK (n : Nat) (v : Value) : Prop := ∃ k : Nat, k ≤ n ∧ v = .int .i64 (k : Int)
set_option maxHeartbeats 4000000 in
set_option maxRecDepth 100000 in
theorem ArticleQuotes_walk (a : ByteArray) (ha : a.size ≤ maxLen) (w : World) (hsh : w.ShapedOpen Try.prog) :
    Calls Try.prog 5 #[.string a] w fun e w' => e = .returned (.bool true) ∧ Below w.heap.size w w' := by
  have HSH := Lib.hid hsh; clear hsh
  have HS := Lib.hid (fun wx => law_short a ha 3000 3000 rfl wx (by omega))
  have hx := short_size a 3000
  generalize a.extract 0 (min a.size 3000) = x at *
  have HN := Lib.hid (fun wx => rf_quote x wx (by omega))
  have HQ := Lib.hid (fun wx hw => art_quote x wx hw (by omega))
  have hql := quo_len (toL x)
  rw [toL_length] at hql
  have HQO := Lib.hid (fun h => (quo_ok (L := toL x) h).2.1)
  have HLA := Lib.hid (fun wx => rf_lines x wx (by omega))
  have hll := lines_len (toL x)
  have HLE := Lib.hid (fun y (h : y ∈ linesF (toL x)) => line_le h)
  rw [toL_length] at hll HLE
  obtain ⟨q, hq⟩ : ∃ q, q = ofL (quoF (toL x)).1 := ⟨_, rfl⟩
  have hqs : q.size ≤ 10000 := by rw [hq, ofL_size]; omega
  have HLB := Lib.hid (fun wx => rf_lines q wx (by omega))
  rw [← show toL q = (quoF (toL x)).1 from by rw [hq, toL_ofL]] at HQO
  rw [← hq] at HQ HN
  clear hq hql
  generalize (quoF (toL x)).2 = qe at *
  generalize linesF (toL x) = la at *
  generalize linesF (toL q) = lb at *
  have g1 : (q.toList != q.toList) = false := by simp [bne]
  have g2 : (qe != qe) = false := by simp [bne]
  go_enter Try.func5, Try.ntmps5
  go_wp2_with ((go_at_call 10; (with_reducible refine (HS.out _).mono ?_); rintro e w' ⟨rfl, rfl⟩))
  (with_reducible refine (HQ.out _ HSH.out).mono ?_)
  rintro e w1 ⟨rfl, hb1⟩
  have HB1 := Lib.hid hb1; clear hb1
  go_wp2_with fail
  (with_reducible refine (HN.out _).mono ?_)
  rintro e w2 ⟨rfl, hb2⟩
  have HB2 := Lib.hid (HB1.out.trans (hb2.mono HB1.out.size)); clear hb2
  go_wp2_with fail
  (with_reducible refine (art_known w2 (shaped_below HSH.out HB2.out)).mono ?_)
  rintro e w3 ⟨rfl, hb3⟩
  have HB3 := Lib.hid (HB2.out.trans (hb3.mono HB2.out.size)); clear hb3
  go_wp2_with fail
  (with_reducible refine (HLA.out _).mono ?_)
  rintro e w4 ⟨va, rfl, hSa⟩
  obtain ⟨A, ca, rfl, hRa⟩ := own_row hSa.own
  have HB4 := Lib.hid (HB3.out.trans (hSa.bel.mono HB3.out.size))
  have HRA4 := Lib.hid hRa
  clear hSa hRa
  go_wp2_with fail
  (with_reducible refine (HLB.out _).mono ?_)
  rintro e w5 ⟨vb, rfl, hSb⟩
  obtain ⟨B, cb, rfl, hRb⟩ := own_row hSb.own
  have HB5 := Lib.hid (HB4.out.trans (hSb.bel.mono HB4.out.size))
  have HRA := Lib.hid (HRA4.out.below hSb.bel)
  have HRB := Lib.hid hRb
  clear hSb hRb HRA4 HLA HLB
  go_wp2_with fail
  go_loop [9, 12] (fun v9 _ => AtK la.length v9) (fun v9 _ => la.length - (intOf v9).toNat)
  case atStart => exact ⟨0, by omega, rfl⟩
  case round =>
    obtain ⟨k, hk, rfl⟩ := hrel
    have k0 : (0 : Int) ≤ (k : Int) := by omega
    by_cases hlt : k < la.length
    · have k1 : (k : Int) < (la.length : Int) := by omega
      by_cases he : qe = 0
      · have hlb := HQO.out he
        subst he
        have hlbl : k < lb.length := by rw [hlb, List.length_map]; exact hlt
        have hlbk : lb[k] = quoL la[k] := by simp only [hlb, List.getElem_map]
        have k2 : (k : Int) < (lb.length : Int) := by omega
        clear hlb
        obtain ⟨ga, oa, rfl, hca⟩ := HRA.out.cell (k := k) (by simpa using hlt)
        obtain ⟨gb, ob, rfl, hcb⟩ := HRB.out.cell (k := k) (by simpa using hlbl)
        simp only [strsL, List.getElem_map] at hca hcb
        rw [hlbk] at hcb
        clear hlbk hlbl
        have hxs := HLE.out _ (List.getElem_mem hlt)
        obtain ⟨X, hX⟩ : ∃ X, X = ofL la[k] := ⟨_, rfl⟩
        obtain ⟨Y, hY⟩ : ∃ Y, Y = ofL (quoL la[k]) := ⟨_, rfl⟩
        have hq2 := quoL_le la[k]
        have hXs : X.size ≤ 3000 := by rw [hX, ofL_size]; omega
        have hYs : Y.size ≤ 4000 := by rw [hY, ofL_size]; omega
        have HX := Lib.hid (fun wx => art_level X wx (by omega))
        have HY := Lib.hid (fun wx => art_level Y wx (by omega))
        rw [show toL X = la[k] from by rw [hX, toL_ofL]] at HX
        rw [show toL Y = quoL la[k] from by rw [hY, toL_ofL], (lev_quo la[k]).1, (lev_quo la[k]).2] at HY
        rw [← hX] at hca
        rw [← hY] at hcb
        have hnl : (levN la[k] : Int) ≤ 3000 := by
          have h1 := levN_le X
          rw [show toL X = la[k] from by rw [hX, toL_ofL]] at h1; omega
        have hnl0 : (0 : Int) ≤ (levN la[k] : Int) := by omega
        have hsum : ((levN la[k] + 1 : Nat) : Int) = (levN la[k] : Int) + 1 := by omega
        rw [hsum] at HY
        clear hX hY hxs hq2 hsum
        generalize levN la[k] = nl at *
        generalize ofL (levR la[k]) = rl at *
        have g3 : (rl.toList != rl.toList) = false := by simp [bne]
        have g4 : (((nl : Int) + 1) != ((nl : Int) + 1)) = false := by simp [bne]
        go_wp2_with fail
        (with_reducible refine (HX.out _).mono ?_)
        rintro e w6 ⟨rfl, rfl⟩
        go_wp2_with fail
        (with_reducible refine (HY.out _).mono ?_)
        rintro e w6 ⟨rfl, rfl⟩
        go_wp2_with fail
        go_round
        case rel => exact ⟨k + 1, by omega, by go_num⟩
        case measure => simp [intOf] <;> omega
      · have e1 : (qe == 0) = false := beq_eq_false_iff_ne.2 he
        clear he HQO
        go_wp2_with fail
        go_ret
        exact ⟨rfl, HB5.out⟩
    · obtain rfl : k = la.length := by omega
      have k1 : (la.length : Int) ≤ (la.length : Int) := by omega
      have k2 : decide (la.length < la.length) = false := by simp
      go_wp2_with fail
      go_ret
      exact ⟨rfl, HB5.out⟩

set_option maxRecDepth 100000 in
theorem ArticleQuotes_lifted (os : Os) (started : os.Started) (H : Type) (enc : TypeId × Value → H) :
    ReturnsInHanded {} Try.checked os 5 .any (Rows.articleQuotesSpec.pre6 enc Try.prog Try.f5 Rows.articleQuotesRow.domain false) (Rows.articleQuotesSpec.post enc Try.prog Try.f5 false true false false) := by
  refine returnsInHanded_of_change_shaped (C := Try.checked) own started (by kernel_rfl) Try.func5
    (ChangeSpec.witness6 (enc := enc) (C := Try.checked) false ⟨#[], #[.string ByteArray.empty], []⟩ 8 (by kernel_rfl) (by kernel_rfl) (by kernel_rfl) (by kernel_rfl)) ?_
  intro W base args ds gs before hval0 hW hcnd _ hsh _
  have hval : ∀ (j : Nat) t v, Try.f5.params[j]? = some t → args[j]? = some v → Value.okWide Try.prog W .any base t v := hval0
  have hW' := hW
  obtain ⟨p, q, hA0, hV, rfl, hfz, hnd⟩ := hW
  have hplt : ∀ x ∈ p, x.block < W.heap.size := fun x hx => hW'.lt x (by simp [hx])
  have hA : DataW.TrodAll enc Try.prog W 0 (fun _ => true) true Try.f5.params.toList args.toList ds p := hA0
  rw [Try.params5] at hA hval
  obtain ⟨v0, vs0, d0, ds0, p0, q0, hargs, rfl, rfl, h0, r0⟩ := trodAll_cons hA
  obtain ⟨rfl, rfl, rfl⟩ := trodAll_nil r0
  obtain rfl : args = #[v0] := by cases args; simp_all
  obtain ⟨rfl, rfl⟩ := trodVars_none hV
  obtain ⟨a0, rfl, rfl, rfl, w0⟩ := open_string Try.underlying9 (hval 0 9 v0 rfl rfl) h0
  refine (ArticleQuotes_walk a0 w0 W hsh).mono fun e W' ⟨he, hg⟩ => ?_
  subst he
  exact ⟨_, rfl, law_post hW' rfl rfl rfl (by decide +kernel) hg⟩

theorem ArticleQuotes_over : Rows.articleQuotesRow.holds Try.pinned (OpenSpec.ofChange Rows.articleQuotesSpec) :=
  OpenClaim.holds_of_wide 5 Try.f5 rfl rfl rfl rfl rfl rfl rfl ⟨rfl, rfl, rfl, rfl, rfl⟩ rfl rfl rfl rfl rfl (by kernel_rfl) Try.func5 (by kernel_rfl)
    (of_decide_eq_true (by kernel_rfl)) (by unfold Func.isWrapper; first | (rw [if_pos (by decide +kernel)]; kernel_rfl) | (rw [if_neg (by decide +kernel)]; exact ⟨rfl, rfl⟩))
    (fun os started H enc _ => ArticleQuotes_lifted os started H enc)

theorem ArticleQuotes_proved : Rows.ArticleQuotesSaid := ArticleQuotes_over
end Go.Proofs.Ytcohgjdijhogbaa
