/- For every field, FieldChecks returns true: Check answers as the reference, and Fold gives the text of a valid field and the error of any other. No condition. -/
import Derived.Test.YtaigbplfbfaghaaCutOne
import Derived.Lib.SmallJoins
namespace Go.Proofs.Ytaigbplfbfaghaa
set_option linter.unusedSimpArgs false
set_option linter.unusedVariables false
open Go.ChangeShapes Go.WideShapes Go.ChangeAt Go.RowKit Go.Joins
open Go.ChangeMaps (open_string shut_string)

set_option maxHeartbeats 2000000 in
set_option maxRecDepth 100000 in
theorem FieldChecks_walk (n b : ByteArray) (hn : n.size ≤ maxLen) (hb : b.size ≤ maxLen) (w : World) :
    Calls Try.prog 4 #[.agg #[.string n, .string b]] w fun e w' => e = .returned (.bool true) ∧ Below w.heap.size w w' := by
  have hblk : ((w.alloc (.cells #[.string n, .string b] 25)).alloc (.cells #[.string n, .string b] 25)).heap[w.heap.size + 1]? = some (.cells #[.string n, .string b] 25 (0, 0)) := by
    simpa using heap_alloc_new (w.alloc (.cells #[.string n, .string b] 25)) (.cells #[.string n, .string b] 25 (0, 0))
  have HBLK := Lib.hid hblk; clear hblk
  go_enter Try.func4, Try.ntmps4
  go_wp2_with fail
  (with_reducible refine (cut_one _ n b _ HBLK.out hn hb).mono ?_)
  rintro e w1 ⟨gg, cap, n', b', rfl, hn1, hb1, hn2, hb2, hc0, hc1, hgl, hbel⟩
  have hbw : Below w.heap.size w w1 := (((Below.refl _ _).alloc (Nat.le_refl _) _).alloc (by simp) _).trans (hbel.mono (by simp; omega))
  have hk0 : w1.heap[w.heap.size]? = some (.cells #[.string n, .string b] 25 (0, 0)) := by
    rw [hbel.block _ (by simp; omega), Lib.alloc_old _ _ _ (by simp)]; exact heap_alloc_new w _
  have hd0 : w1.cell? ⟨w.heap.size, 0, none⟩ = some (.string n) := by rw [Lib.cell_of_heap hk0]; rfl
  have hd1 : w1.cell? ⟨w.heap.size, 1, none⟩ = some (.string b) := by rw [Lib.cell_of_heap hk0]; rfl
  have hf0 : w1.frozen? ⟨w.heap.size, 0, none⟩ = false := Lib.frozen_of_heap hk0 0
  have hf1 : w1.frozen? ⟨w.heap.size, 1, none⟩ = false := Lib.frozen_of_heap hk0 1
  have HK := Lib.hid hk0
  clear hbel hk0 HBLK
  clear hn1 hb1 hn hb
  go_wp2_with fail
  obtain ⟨W, hW⟩ : ∃ W, W = (((w1.setCell ⟨w.heap.size, 0, none⟩ (.string n')).setCell ⟨w.heap.size, 1, none⟩ (.string b')).alloc (.cells #[.string n', .string b'] 28)) := ⟨_, rfl⟩
  rw [← hW]
  have hz : w.heap.size < w1.heap.size := heap_lt HK.out
  have hBW : Below w.heap.size w W := by rw [hW]; exact ((hbw.setCell (p := ⟨w.heap.size, 0, none⟩) (Nat.le_refl _) _).setCell (p := ⟨w.heap.size, 1, none⟩) (Nat.le_refl _) _).alloc (by simp [World.setCell]; omega) _
  have hk0 : W.heap[w.heap.size]? = some (.cells #[.string n', .string b'] 25 (0, 0)) := by
    rw [hW, Lib.alloc_old _ _ _ (by simp [World.setCell]; omega)]; exact heap_set (heap_set HK.out _) _
  have hk1 : W.heap[w1.heap.size]? = some (.cells #[.string n', .string b'] 28 (0, 0)) := by
    rw [hW]; simpa [World.setCell] using heap_alloc_new ((w1.setCell ⟨w.heap.size, 0, none⟩ (.string n')).setCell ⟨w.heap.size, 1, none⟩ (.string b')) (.cells #[.string n', .string b'] 28 (0, 0))
  have HC := Lib.hid (show ∀ wx, Below W.heap.size W wx → wx.cell? ⟨w.heap.size, 0, none⟩ = some (.string n') ∧ wx.cell? ⟨w.heap.size, 1, none⟩ = some (.string b') ∧ wx.cell? ⟨w1.heap.size, 0, none⟩ = some (.string n') ∧ wx.cell? ⟨w1.heap.size, 1, none⟩ = some (.string b') from fun wx hx => by
    have q0 := (hx.block _ (heap_lt hk0)).trans hk0
    have q1 := (hx.block _ (heap_lt hk1)).trans hk1
    refine ⟨?_, ?_, ?_, ?_⟩
    · rw [Lib.cell_of_heap q0]; rfl
    · rw [Lib.cell_of_heap q0]; rfl
    · rw [Lib.cell_of_heap q1]; rfl
    · rw [Lib.cell_of_heap q1]; rfl)
  have HE := Lib.hid HK.out
  clear hk0 hk1 hW hd0 hd1 hf0 hf1 HK HE hc0 hc1 hbw
  have hn3 : n'.size ≤ 1000000 := by omega
  have hb3 : b'.size ≤ 1000000 := by omega
  by_cases hcf : checkF (toL n') (toL b') = 0
  · (with_reducible refine (fld_fold_ok n' b' W hn3 hb3 hcf).mono ?_)
    have HCF := Lib.hid hcf
    clear hcf
    rintro e w2 ⟨rfl, hb2⟩
    obtain ⟨c0, c1, c2, c3⟩ := HC.out w2 hb2
    go_wp2_with fail
    (with_reducible refine (ref_check n' b' w2 hn3 hb3).mono ?_)
    rintro e w3 ⟨rfl, hb3⟩
    rw [HCF.out]
    have hB3 := hb2.trans (hb3.mono hb2.size)
    clear c0 c1 c2 c3
    obtain ⟨c0, c1, c2, c3⟩ := HC.out w3 hB3
    go_wp2_with fail
    (with_reducible refine (fld_check n' b' w3 hn3 (by omega)).mono ?_)
    rintro e w4 ⟨rfl, hb4⟩
    rw [HCF.out]
    have hB4 := hB3.trans (hb4.mono hB3.size)
    clear c0 c1 c2 c3
    obtain ⟨c0, c1, c2, c3⟩ := HC.out w4 hB4
    go_wp2_with fail
    (with_reducible refine (law_known w4).mono ?_)
    rintro e w5 ⟨rfl, hb5⟩
    have hB5 := hB4.trans (hb5.mono hB4.size)
    clear c0 c1 c2 c3
    obtain ⟨c0, c1, c2, c3⟩ := HC.out w5 hB5
    go_wp2_with fail
    (with_reducible refine (ref_fold n' b' w5 hn3 (by omega)).mono ?_)
    rintro e w6 ⟨rfl, hb6⟩
    have hB6 := hB5.trans (hb6.mono hB5.size)
    go_wp2_with fail
    go_ret
    exact ⟨ret_bool (by simp), hBW.trans (hB6.mono hBW.size)⟩
  · (with_reducible refine (fld_fold_bad n' b' W hn3 hb3 hcf).mono ?_)
    have hcf' : (checkF (toL n') (toL b') != 0) = true := by simpa using hcf
    rintro e w2 ⟨rfl, hb2⟩
    clear hcf
    obtain ⟨c0, c1, c2, c3⟩ := HC.out w2 hb2
    go_wp2_with fail
    (with_reducible refine (ref_check n' b' w2 hn3 hb3).mono ?_)
    rintro e w3 ⟨rfl, hb3⟩
    have hB3 := hb2.trans (hb3.mono hb2.size)
    clear c0 c1 c2 c3
    obtain ⟨c0, c1, c2, c3⟩ := HC.out w3 hB3
    go_wp2_with fail
    (with_reducible refine (fld_check n' b' w3 hn3 (by omega)).mono ?_)
    rintro e w4 ⟨rfl, hb4⟩
    have hB4 := hB3.trans (hb4.mono hB3.size)
    go_wp2_with fail
    (with_reducible refine (law_known w4).mono ?_)
    rintro e w5 ⟨rfl, hb5⟩
    have hB5 := hB4.trans (hb5.mono hB4.size)
    go_wp2_with fail
    go_ret
    exact ⟨ret_bool (by simp), hBW.trans (hB5.mono hBW.size)⟩

set_option maxRecDepth 100000 in
theorem FieldChecks_lifted (os : Os) (started : os.Started) (H : Type) (enc : TypeId × Value → H) :
    ReturnsInHanded {} Try.checked os 4 .any (Rows.fieldChecksSpec.pre6 enc Try.prog Try.f4 Rows.fieldChecksRow.domain false) (Rows.fieldChecksSpec.post enc Try.prog Try.f4 false true false false) := by
  refine returnsInHanded_of_change (C := Try.checked) own started (by kernel_rfl) Try.func4
    (ChangeSpec.witness6 (enc := enc) (C := Try.checked) false ⟨#[], #[.agg #[.string ByteArray.empty, .string ByteArray.empty]], []⟩ 8 (by kernel_rfl) (by kernel_rfl) (by kernel_rfl) (by kernel_rfl)) ?_
  intro W base args ds gs before hval0 hW hcnd _
  have hval : ∀ (j : Nat) t v, Try.f4.params[j]? = some t → args[j]? = some v → Value.okWide Try.prog W .any base t v := hval0
  have hW' := hW
  obtain ⟨p, q, hA0, hV, rfl, hfz, hnd⟩ := hW
  have hA : DataW.TrodAll enc Try.prog W 0 (fun _ => true) true Try.f4.params.toList args.toList ds p := hA0
  rw [Try.params4] at hA hval
  obtain ⟨v0, vs0, d0, ds0, p0, q0, hargs, rfl, rfl, h0, r0⟩ := trodAll_cons hA
  obtain ⟨rfl, rfl, rfl⟩ := trodAll_nil r0
  obtain rfl : args = #[v0] := by cases args; simp_all
  obtain ⟨rfl, rfl⟩ := trodVars_none hV
  obtain ⟨c0, c1, y0, y1, m, rfl, rfl, rfl, hy0, hy1⟩ := open_agg2 Try.underlying25 (by kernel_rfl) (by kernel_rfl) (hval 0 25 v0 rfl rfl) h0
  obtain ⟨n, e0, rfl, wn⟩ := DataW.trod_string Try.underlying9 hy0
  obtain ⟨b, e1, rfl, wb⟩ := DataW.trod_string Try.underlying9 hy1
  simp at e0 e1
  subst e0 e1
  refine (FieldChecks_walk n b wn wb W).mono fun e W' ⟨he, hg⟩ => ?_
  subst he
  exact ⟨_, rfl, law_post hW' rfl rfl rfl (by decide +kernel) hg⟩

theorem FieldChecks_over : Rows.fieldChecksRow.holds Try.pinned (OpenSpec.ofChange Rows.fieldChecksSpec) :=
  OpenClaim.holds_of_wide 4 Try.f4 rfl rfl rfl rfl rfl rfl rfl ⟨rfl, rfl, rfl, rfl, rfl⟩ rfl rfl rfl rfl rfl (by kernel_rfl) Try.func4 (by kernel_rfl)
    (of_decide_eq_true (by kernel_rfl)) (by unfold Func.isWrapper; first | (rw [if_pos (by decide +kernel)]; kernel_rfl) | (rw [if_neg (by decide +kernel)]; exact ⟨rfl, rfl⟩))
    (fun os started H enc _ => FieldChecks_lifted os started H enc)

theorem FieldChecks_proved : Rows.FieldChecksSaid := FieldChecks_over

end Go.Proofs.Ytaigbplfbfaghaa
