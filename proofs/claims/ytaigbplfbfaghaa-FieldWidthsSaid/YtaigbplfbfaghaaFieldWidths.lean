/- For every field, FieldWidths returns true: every line of a folded field has at most 78 bytes, unless a single word is too long for that, and no line could take the first word of the next one. No condition. -/
import Derived.Test.YtaigbplfbfaghaaWidthQ
import Derived.Test.YtaigbplfbfaghaaCutOne
import Derived.Test.YtaigbplfbfaghaaOpen
import Derived.Lib.SmallJoins
namespace Go.Proofs.Ytaigbplfbfaghaa
set_option linter.unusedSimpArgs false
set_option linter.unusedVariables false
open Go.ChangeShapes Go.WideShapes Go.ChangeAt Go.RowKit Go.Joins
open Go.ChangeMaps (open_string shut_string)

set_option maxHeartbeats 4000000 in
set_option maxRecDepth 100000 in
theorem FieldWidths_walk (n b : ByteArray) (hn : n.size ≤ maxLen) (hb : b.size ≤ maxLen) (w : World) :
    Calls Try.prog 5 #[.agg #[.string n, .string b]] w fun e w' => e = .returned (.bool true) ∧ Below w.heap.size w w' := by
  have hblk : ((w.alloc (.cells #[.string n, .string b] 25)).alloc (.cells #[.string n, .string b] 25)).heap[w.heap.size + 1]? = some (.cells #[.string n, .string b] 25 (0, 0)) := by
    simpa using heap_alloc_new (w.alloc (.cells #[.string n, .string b] 25)) (.cells #[.string n, .string b] 25 (0, 0))
  have HBLK := Lib.hid hblk; clear hblk
  go_enter Try.func5, Try.ntmps5
  go_wp2_with fail
  (with_reducible refine (cut_one _ n b _ HBLK.out hn hb).mono ?_)
  rintro e w1 ⟨gg, cap, n', b', rfl, hn1, hb1, hn2, hb2, hc0, hc1, hgl, hbel⟩
  have hbw : Below w.heap.size w w1 := (((Below.refl _ _).alloc (Nat.le_refl _) _).alloc (by simp) _).trans (hbel.mono (by simp; omega))
  have hk0 : w1.heap[w.heap.size]? = some (.cells #[.string n, .string b] 25 (0, 0)) := by
    rw [hbel.block _ (by simp; omega), Lib.alloc_old _ _ _ (by simp)]; exact heap_alloc_new w _
  have hd0 : w1.cell? ⟨w.heap.size, 0, none⟩ = some (.string n) := by rw [Lib.cell_of_heap hk0]; rfl
  have hd1 : w1.cell? ⟨w.heap.size, 1, none⟩ = some (.string b) := by rw [Lib.cell_of_heap hk0]; rfl
  have hf0 : w1.frozen? ⟨w.heap.size, 0, none⟩ = false := Lib.frozen_of_heap hk0 0
  have hf1 : w1.frozen? ⟨w.heap.size, 1, none⟩ = false := Lib.frozen_of_heap hk0 1
  have HK := Lib.hid hk0
  clear hbel hk0 HBLK
  clear hn1 hb1 hn hb
  go_wp2_with fail
  obtain ⟨W, hW⟩ : ∃ W, W = ((w1.setCell ⟨w.heap.size, 0, none⟩ (.string n')).setCell ⟨w.heap.size, 1, none⟩ (.string b')) := ⟨_, rfl⟩
  rw [← hW]
  have hz : w.heap.size < w1.heap.size := heap_lt HK.out
  have hBW : Below w.heap.size w W := by rw [hW]; exact ((hbw.setCell (p := ⟨w.heap.size, 0, none⟩) (Nat.le_refl _) _).setCell (p := ⟨w.heap.size, 1, none⟩) (Nat.le_refl _) _)
  have hk0 : W.heap[w.heap.size]? = some (.cells #[.string n', .string b'] 25 (0, 0)) := by
    rw [hW]; exact heap_set (heap_set HK.out _) _
  have HC := Lib.hid (show ∀ wx, Below W.heap.size W wx → wx.cell? ⟨w.heap.size, 0, none⟩ = some (.string n') from fun wx hx => by
    have q0 := (hx.block _ (heap_lt hk0)).trans hk0
    rw [Lib.cell_of_heap q0]; rfl)
  clear hk0 hW hd0 hd1 hf0 hf1 HK hc0 hc1 hbw
  have hn3 : n'.size ≤ 1000000 := by omega
  have hb3 : b'.size ≤ 1000000 := by omega
  by_cases hcf : checkF (toL n') (toL b') = 0
  · (with_reducible refine (fld_fold_ok n' b' W hn3 hb3 hcf).mono ?_)
    have HFO := Lib.hid (folded_of (toL n') (toL b') hcf)
    have HFL := Lib.hid (foldF_le (toL n') (toL b'))
    clear hcf
    rintro e w2 ⟨rfl, hb2⟩
    have hSL : (ofL (foldF (toL n') (toL b'))).size ≤ 100000 := by
      rw [ofL_size]; have := HFL.out; rw [toL_length, toL_length] at this; omega
    obtain ⟨S, hS⟩ : ∃ S, S = ofL (foldF (toL n') (toL b')) := ⟨_, rfl⟩
    have HF := Lib.hid (show Folded (toL n') (toL S) by rw [hS, toL_ofL]; exact HFO.out)
    rw [← hS] at hSL ⊢
    clear HFO HFL hS
    go_wp2_with fail
    go_loopg [5, 6, 7] S.size (fun g fr bf ix wr => ∃ a before i : Nat, g = S.size - i ∧ i ≤ S.size ∧ fr = .int .i64 a ∧ bf = .int .i64 before ∧ ix = .int .i64 i ∧ WInv (toL n') (toL S) a before i ∧ Below W.heap.size W wr)
    case atStart => exact ⟨0, 0, 0, by omega, by omega, rfl, rfl, rfl, WInv.start _ _, hb2⟩
    case round =>
      obtain ⟨a, before, i, rfl, hi, rfl, rfl, rfl, hI, hB⟩ := hrel
      have hai := hI.le
      by_cases hlt : i < S.size
      · have hlt' : i < (toL S).length := by rw [toL_length]; exact hlt
        have hge : (toL S)[i]'hlt' = S[i]'hlt := toL_getElem S i hlt
        rcases hc : isLF (S[i]'hlt) with _ | _
        · have hN := Lib.hid (hI.skip hlt' (by rw [hge]; exact hc))
          have hc' : ((num (S[i]'hlt)) != 10) = true := by rw [isLF_num] at hc; simpa using hc
          clear hge hlt' hc
          go_wp2_with fail
          go_roundg (S.size - (i + 1))
          case measure => omega
          case rel => exact ⟨a, before, i + 1, rfl, by omega, rfl, rfl, by go_num, hN.out, hB⟩
        · have hc' : ((num (S[i]'hlt)) != 10) = false := by rw [isLF_num] at hc; simpa using hc
          have hcT : isLF ((toL S)[i]'hlt') = true := by rw [hge]; exact hc
          have hai' : (a : Int) ≤ (i : Int) := by omega
          have his' : (i : Int) ≤ (S.size : Int) := by omega
          clear hge hc
          by_cases ha : a = 0
          · subst ha
            obtain ⟨q1, q2, q3⟩ := hI.first HF.out hlt' hcT
            have Q2 := Lib.hid q2; have Q3 := Lib.hid q3
            rw [toL_length] at q1
            have HLs := Lib.hid (extract_size S 0 i hi)
            have HLt := Lib.hid (extract_toL S 0 i)
            clear q2 q3 hcT hI hlt'
            go_wp2_with fail
            generalize S.extract 0 i = L at *
            have hLs : L.size = i := by have := HLs.out; omega
            have hL9 : L.size ≤ 100000 := by omega
            have hLs2 : n'.size + 1 ≤ L.size := by omega
            have HLs' := Lib.hid hLs; clear hLs
            (with_reducible refine (ref_words L wr (by omega)).mono ?_)
            rintro e w3 ⟨v3, rfl, hown3, hb3⟩
            obtain ⟨A3, c3, rfl, _⟩ := own_row hown3
            clear hown3
            have hB3 := hB.trans (hb3.mono hB.size)
            have hcell := HC.out w3 hB3
            go_wp2_with fail
            have hmin : (min (L.size : Int) ((n'.size : Int) + 1)).toNat = n'.size + 1 := by omega
            rw [hmin]
            have HMt := Lib.hid (show toL (L.extract (n'.size + 1) L.size) = (cutL (toL S) 0 i).drop ((toL n').length + 1) by
              rw [extract_toL, HLt.out, toL_length n', cutL, List.take_of_length_le]
              rw [List.length_drop, ← HLt.out, toL_length]; exact Nat.le_refl _)
            have hMs : (L.extract (n'.size + 1) L.size).size ≤ 100000 := by rw [extract_size _ _ _ (Nat.le_refl _)]; omega
            generalize L.extract (n'.size + 1) L.size = M at *
            clear hmin
            (with_reducible refine (ref_words M w3 (by omega)).mono ?_)
            rintro e w4 ⟨v4, rfl, hown4, hb4⟩
            obtain ⟨A4, c4, rfl, _⟩ := own_row hown4
            clear hown4
            have hB4 := hB3.trans (hb4.mono hB3.size)
            have hno : ¬ (78 < L.size ∧ 1 < (words (toL M)).length) := by
              rw [HMt.out, HLs'.out]; exact Q2.out
            generalize (words (toL M)).length = m at *
            by_cases h78 : 78 < L.size
            · have h78' : decide ((78 : Int) < (L.size : Int)) = true := by simp; omega
              have hm' : decide ((1 : Int) < (m : Int)) = false := by simp; omega
              go_wp2_with fail
              go_roundg (S.size - (i + 1))
              case measure => omega
              case rel => exact ⟨i + 1, i, i + 1, rfl, by omega, by go_num, by rw [HLs'.out], by go_num, Q3.out, hB4⟩
            · have h78' : decide ((78 : Int) < (L.size : Int)) = false := by simp; omega
              go_wp2_with fail
              go_roundg (S.size - (i + 1))
              case measure => omega
              case rel => exact ⟨i + 1, i, i + 1, rfl, by omega, by go_num, by rw [HLs'.out], by go_num, Q3.out, hB4⟩
          · obtain ⟨x, fit, q1, q2, q3, q4, q5, q6, q7⟩ := hI.later (by omega) hlt' hcT
            have Q1 := Lib.hid q1; have Q2 := Lib.hid q2; have Q6 := Lib.hid q6; have Q7 := Lib.hid q7
            have hbef := hI.bef
            have HLs := Lib.hid (extract_size S a i hi)
            have HLt := Lib.hid (extract_toL S a i)
            clear q1 q2 q6 q7 hcT hI hlt'
            have ha0 : ((a : Int) == 0) = false := beq_eq_false_iff_ne.2 (by omega)
            have ha1 : decide ((0 : Int) < (a : Int)) = true := by simp; omega
            go_wp2_with fail
            generalize S.extract a i = L at *
            have hL9 : L.size ≤ 100000 := by have := HLs.out; omega
            have hL0 : 0 < L.size := by have := HLs.out; omega
            have hW := Lib.hid (show words (toL L) = x :: fit by rw [HLt.out]; exact Q1.out)
            have hno : ¬ (78 < L.size ∧ 1 < (words (toL L)).length) := by
              rw [hW.out, HLs.out]; exact Q2.out
            have hL32 : ((num (L[0]'hL0)) != 32) = false := by
              have h1 := Q6.out
              rw [← HLt.out, List.getElem?_eq_getElem (by rw [toL_length]; exact hL0), toL_getElem _ _ hL0] at h1
              simp only [Option.some.injEq] at h1
              rw [h1]; rfl
            have HL32 := Lib.hid hL32; clear hL32
            (with_reducible refine (ref_words L wr (by omega)).mono ?_)
            rintro e w3 ⟨v3, rfl, hown3, hb3⟩
            obtain ⟨A3, c3, rfl, _⟩ := own_row hown3
            clear hown3
            have hB3 := hB.trans (hb3.mono hB.size)
            have HWL := Lib.hid (show (words (toL L)).length = fit.length + 1 by rw [hW.out]; rfl)
            rw [HWL.out]
            rw [HWL.out] at hno
            generalize hm : fit.length + 1 = m at *
            have HM := Lib.hid hm; clear hm
            by_cases h78 : 78 < L.size
            · have h78' : decide ((78 : Int) < (L.size : Int)) = true := by simp; omega
              have hm' : decide ((1 : Int) < (m : Int)) = false := by simp; omega
              clear hno
              go_wp2_with fail
              (with_reducible refine (ref_words L w3 (by omega)).mono ?_)
              rintro e w4 ⟨v4, rfl, hown4, hb4⟩
              obtain ⟨A4, c4, rfl, hrow4⟩ := own_row hown4
              clear hown4
              have hB4 := hB3.trans (hb4.mono hB3.size)
              rw [hW.out] at hrow4
              obtain ⟨g4, off4, rfl, hcell4⟩ := hrow4.cell (k := 0) (by simp)
              simp only [List.map_cons, List.getElem_cons_zero, Nat.add_zero] at hcell4
              have hX : (ofL x).size = x.length := ofL_size x
              generalize ofL x = X at *
              rw [HWL.out]
              have hm0 : 0 < m := by have := HM.out; omega
              have t1 : ((m : Int) == 0) = false := beq_eq_false_iff_ne.2 (by omega)
              have t2 : decide ((before : Int) + 1 + (X.size : Int) ≤ 78) = false := by simp; omega
              have t3 : (before : Int) + 1 ≤ 1000000 := by omega
              have t4 : (X.size : Int) ≤ 1000000 := by omega
              have t5 : (0 : Int) < (m : Int) := by omega
              have HX := Lib.hid hX; clear hX
              clear hrow4
              have hL32 := HL32.out
              go_wp2_with fail
              go_roundg (S.size - (i + 1))
              case measure => omega
              case rel => exact ⟨i + 1, i - a, i + 1, rfl, by omega, by go_num, by rw [HLs.out], by go_num, Q7.out, hB4⟩
            · have h78' : decide ((78 : Int) < (L.size : Int)) = false := by simp; omega
              go_wp2_with fail
              (with_reducible refine (ref_words L w3 (by omega)).mono ?_)
              rintro e w4 ⟨v4, rfl, hown4, hb4⟩
              obtain ⟨A4, c4, rfl, hrow4⟩ := own_row hown4
              clear hown4
              have hB4 := hB3.trans (hb4.mono hB3.size)
              rw [hW.out] at hrow4
              obtain ⟨g4, off4, rfl, hcell4⟩ := hrow4.cell (k := 0) (by simp)
              simp only [List.map_cons, List.getElem_cons_zero, Nat.add_zero] at hcell4
              have hX : (ofL x).size = x.length := ofL_size x
              generalize ofL x = X at *
              rw [HWL.out]
              have hm0 : 0 < m := by have := HM.out; omega
              have t1 : ((m : Int) == 0) = false := beq_eq_false_iff_ne.2 (by omega)
              have t2 : decide ((before : Int) + 1 + (X.size : Int) ≤ 78) = false := by simp; omega
              have t3 : (before : Int) + 1 ≤ 1000000 := by omega
              have t4 : (X.size : Int) ≤ 1000000 := by omega
              have t5 : (0 : Int) < (m : Int) := by omega
              have HX := Lib.hid hX; clear hX
              clear hrow4
              have hL32 := HL32.out
              go_wp2_with fail
              go_roundg (S.size - (i + 1))
              case measure => omega
              case rel => exact ⟨i + 1, i - a, i + 1, rfl, by omega, by go_num, by rw [HLs.out], by go_num, Q7.out, hB4⟩
      · have ha := Lib.hid (show a = S.size by
          have := (show i = (toL S).length by rw [toL_length]; omega)
          rw [this] at hI
          have := WInv.done HF.out hI
          rw [toL_length] at this; exact this)
        go_wp2_with fail
        (with_reducible refine (law_known wr).mono ?_)
        rintro e w5 ⟨rfl, hb5⟩
        have hB5 := hB.trans (hb5.mono hB.size)
        have hae : ((a : Int) == (S.size : Int)) = true := by rw [ha.out]; simp
        go_wp2_with fail
        go_ret
        exact ⟨ret_bool (by simp), hBW.trans (hB5.mono hBW.size)⟩
  · (with_reducible refine (fld_fold_bad n' b' W hn3 hb3 hcf).mono ?_)
    have hcf' : (checkF (toL n') (toL b') != 0) = true := by simpa using hcf
    rintro e w2 ⟨rfl, hb2⟩
    clear hcf
    go_wp2_with fail
    (with_reducible refine (law_known w2).mono ?_)
    rintro e w5 ⟨rfl, hb5⟩
    have hB5 := hb2.trans (hb5.mono hb2.size)
    go_wp2_with fail
    go_ret
    exact ⟨ret_bool (by simp), hBW.trans (hB5.mono hBW.size)⟩

set_option maxRecDepth 100000 in
theorem FieldWidths_lifted (os : Os) (started : os.Started) (H : Type) (enc : TypeId × Value → H) :
    ReturnsInHanded {} Try.checked os 5 .any (Rows.fieldWidthsSpec.pre6 enc Try.prog Try.f5 Rows.fieldWidthsRow.domain false) (Rows.fieldWidthsSpec.post enc Try.prog Try.f5 false true false false) := by
  refine returnsInHanded_of_change (C := Try.checked) own started (by kernel_rfl) Try.func5
    (ChangeSpec.witness6 (enc := enc) (C := Try.checked) false ⟨#[], #[.agg #[.string ByteArray.empty, .string ByteArray.empty]], []⟩ 8 (by kernel_rfl) (by kernel_rfl) (by kernel_rfl) (by kernel_rfl)) ?_
  intro W base args ds gs before hval0 hW hcnd _
  have hval : ∀ (j : Nat) t v, Try.f5.params[j]? = some t → args[j]? = some v → Value.okWide Try.prog W .any base t v := hval0
  have hW' := hW
  obtain ⟨p, q, hA0, hV, rfl, hfz, hnd⟩ := hW
  have hplt : ∀ x ∈ p, x.block < W.heap.size := fun x hx => hW'.lt x (by simp [hx])
  have hA : DataW.TrodAll enc Try.prog W 0 (fun _ => true) true Try.f5.params.toList args.toList ds p := hA0
  rw [Try.params5] at hA hval
  obtain ⟨v0, vs0, d0, ds0, p0, q0, hargs, rfl, rfl, h0, r0⟩ := trodAll_cons hA
  obtain ⟨rfl, rfl, rfl⟩ := trodAll_nil r0
  obtain rfl : args = #[v0] := by cases args; simp_all
  obtain ⟨rfl, rfl⟩ := trodVars_none hV
  obtain ⟨x0, y0, z0, u0, m0, rfl, rfl, rfl, hx0, hy0⟩ := open_agg2 Try.underlying25 (by kernel_rfl) (by kernel_rfl) (hval 0 25 v0 rfl rfl) h0
  obtain ⟨n0, e0, rfl, wn0⟩ := DataW.trod_string Try.underlying9 hx0
  obtain ⟨b0, f0, rfl, wb0⟩ := DataW.trod_string Try.underlying9 hy0
  simp at e0 f0
  subst e0 f0
  refine (FieldWidths_walk n0 b0 wn0 wb0 W).mono fun e W' ⟨he, hg⟩ => ?_
  subst he
  exact ⟨_, rfl, law_post hW' rfl rfl rfl (by decide +kernel) hg⟩

theorem FieldWidths_over : Rows.fieldWidthsRow.holds Try.pinned (OpenSpec.ofChange Rows.fieldWidthsSpec) :=
  OpenClaim.holds_of_wide 5 Try.f5 rfl rfl rfl rfl rfl rfl rfl ⟨rfl, rfl, rfl, rfl, rfl⟩ rfl rfl rfl rfl rfl (by kernel_rfl) Try.func5 (by kernel_rfl)
    (of_decide_eq_true (by kernel_rfl)) (by unfold Func.isWrapper; first | (rw [if_pos (by decide +kernel)]; kernel_rfl) | (rw [if_neg (by decide +kernel)]; exact ⟨rfl, rfl⟩))
    (fun os started H enc _ => FieldWidths_lifted os started H enc)

theorem FieldWidths_proved : Rows.FieldWidthsSaid := FieldWidths_over

end Go.Proofs.Ytaigbplfbfaghaa
