/- The walk over the law's comparison of an article with that of the reference. -/
import Derived.Test.YtcohgjdijhogbaaPt18
import Derived.Test.YtcohgjdijhogbaaConv
namespace Go.Proofs.Ytcohgjdijhogbaa
set_option linter.unusedSimpArgs false
set_option linter.unusedVariables false
open Go.RowKit

theorem two_boxes {w w' : World} {a b : Value} {t u : TypeId} {x y : Value} (h : Below (w.heap.size + 2) ((w.alloc (.cells #[a, b] t)).alloc (.cells #[x, y] u)) w') :
    w'.heap[w.heap.size]? = some (.cells #[a, b] t (0, 0)) ∧ w'.heap[w.heap.size + 1]? = some (.cells #[x, y] u (0, 0)) := by
  constructor
  · rw [h.block _ (by omega), Below.heap_alloc _ _ _ (by simp)]; exact World.alloc_heap_new _ _
  · rw [h.block _ (by omega)]
    have := World.alloc_heap_new (w.alloc (.cells #[a, b] t)) (.cells #[x, y] u)
    rw [World.size_alloc] at this; exact this
set_option maxHeartbeats 4000000 in
set_option maxRecDepth 100000 in
theorem law_same (A B : Option Addr) (l m : List Fd) (c d : Nat) (x y : ByteArray) (w : World) (hr : Row w A (fldsV l)) (hq : Row w B (fldsV m)) (hl : l.length ≤ 1000000) (hm : m.length ≤ 1000000) :
    Calls Try.prog 28 #[.agg #[.slice A l.length c, .string x], .agg #[.slice B m.length d, .string y]] w fun e w' => e = .returned (.bool (decide (l = m ∧ toL x = toL y))) ∧ Below w.heap.size w w' := by
  have HR := Lib.hid hr; have HQ := Lib.hid hq; clear hr hq
  have HB0 := Lib.hid (show Below w.heap.size w ((w.alloc (.cells #[.slice A l.length c, .string x] 49)).alloc (.cells #[.slice B m.length d, .string y] 53)) from ((Below.refl _ _).alloc (Nat.le_refl _) _).alloc (by simp) _)
  by_cases hlm : l.length = m.length
  · have hlm' : ((l.length : Int) != (m.length : Int)) = false := by simp [hlm]
    have HLM := Lib.hid hlm; clear hlm
    rcases e0 : (x.toList == y.toList) with _ | _
    · have H := Lib.hid (show decide (l = m ∧ toL x = toL y) = false by
        simp only [decide_eq_false_iff_not]; rintro ⟨_, e⟩; rw [toL_inj e] at e0; simp at e0)
      go_enter Try.func28, Try.ntmps28
      go_wp2_with fail
      go_ret
      exact ⟨ret_bool H.out.symm, HB0.out⟩
    · have HXY := Lib.hid (show toL x = toL y from by rw [ByteArray.toList_eq, ByteArray.toList_eq] at e0; exact eq_of_beq e0)
      go_enter Try.func28, Try.ntmps28
      go_wp2_with fail
      go_loopg [5] l.length (fun g ix wr => ∃ k : Nat, g = l.length - k ∧ k ≤ l.length ∧ ix = .int .i64 k ∧ l.take k = m.take k ∧ Below w.heap.size w wr ∧ wr.heap[w.heap.size]? = some (.cells #[.slice A l.length c, .string x] 49 (0, 0)) ∧ wr.heap[w.heap.size + 1]? = some (.cells #[.slice B m.length d, .string y] 53 (0, 0)))
      case atStart => exact ⟨0, by omega, by omega, rfl, rfl, HB0.out, two_boxes (Below.refl _ _)⟩
      case round =>
        obtain ⟨k, rfl, hk, rfl, htk, hB, hx1, hx2⟩ := hrel
        have HTK := Lib.hid htk; have HX1 := Lib.hid hx1; have HX2 := Lib.hid hx2; have HB := Lib.hid hB; clear htk hx1 hx2 hB
        have k0 : wr.cell? ⟨w.heap.size, 0, none⟩ = some (.slice A l.length c) := by rw [Lib.cell_of_heap HX1.out]; rfl
        have k1 : wr.cell? ⟨w.heap.size + 1, 0, none⟩ = some (.slice B m.length d) := by rw [Lib.cell_of_heap HX2.out]; rfl
        by_cases hlt : k < l.length
        · have hlt2 : k < m.length := by have := HLM.out; omega
          have hk1 : (0 : Int) ≤ (k : Int) := by omega
          have hk2 : (k : Int) < (l.length : Int) := by omega
          have hk3 : (k : Int) < (m.length : Int) := by omega
          obtain ⟨bb, off, rfl, -⟩ := HR.out.at (k := 0) (by rw [fldsV_length]; omega)
          obtain ⟨bc, off2, rfl, -⟩ := HQ.out.at (k := 0) (by rw [fldsV_length]; omega)
          obtain ⟨n, hn⟩ : ∃ n, ofL l[k].1 = n := ⟨_, rfl⟩
          obtain ⟨b, hb⟩ : ∃ b, ofL l[k].2 = b := ⟨_, rfl⟩
          obtain ⟨n2, hn2⟩ : ∃ n2, ofL m[k].1 = n2 := ⟨_, rfl⟩
          obtain ⟨b2, hb2⟩ : ∃ b2, ofL m[k].2 = b2 := ⟨_, rfl⟩
          obtain ⟨hc1, hc2⟩ := (HR.out.below HB.out).field' hlt hn hb
          obtain ⟨hd1, hd2⟩ := (HQ.out.below HB.out).field' hlt2 hn2 hb2
          have HNB := Lib.hid (show l[k] = (toL n, toL b) from Prod.ext (by rw [← hn, toL_ofL]) (by rw [← hb, toL_ofL]))
          have HNB2 := Lib.hid (show m[k] = (toL n2, toL b2) from Prod.ext (by rw [← hn2, toL_ofL]) (by rw [← hb2, toL_ofL]))
          clear hn hb hn2 hb2
          rcases e1 : (n.toList == n2.toList) with _ | _
          · have HF := Lib.hid (show decide (l = m ∧ toL x = toL y) = false by
              simp only [decide_eq_false_iff_not]; rintro ⟨e, _⟩; subst e
              have := HNB.out.symm.trans HNB2.out
              injection this with h1 h2
              rw [toL_inj h1] at e1; simp at e1)
            rcases e2 : (b.toList == b2.toList) with _ | _
            all_goals
              go_wp2_with fail
              go_quiet (fail)
              go_wp2_with fail
              go_ret
              exact ⟨ret_bool HF.out.symm, below_drewN HB.out _⟩
          · rcases e2 : (b.toList == b2.toList) with _ | _
            · have HF := Lib.hid (show decide (l = m ∧ toL x = toL y) = false by
                simp only [decide_eq_false_iff_not]; rintro ⟨e, _⟩; subst e
                have := HNB.out.symm.trans HNB2.out
                injection this with h1 h2
                rw [toL_inj h2] at e2; simp at e2)
              go_wp2_with fail
              go_quiet (fail)
              go_wp2_with fail
              go_ret
              exact ⟨ret_bool HF.out.symm, below_drewN HB.out _⟩
            · have HT := Lib.hid (show l.take (k + 1) = m.take (k + 1) by
                rw [List.take_succ_eq_append_getElem hlt, List.take_succ_eq_append_getElem hlt2, HTK.out, HNB.out, HNB2.out]
                have h1 : n = n2 := toL_inj (by rw [ByteArray.toList_eq, ByteArray.toList_eq] at e1; exact eq_of_beq e1)
                have h2 : b = b2 := toL_inj (by rw [ByteArray.toList_eq, ByteArray.toList_eq] at e2; exact eq_of_beq e2)
                rw [h1, h2])
              go_wp2_with fail
              go_quiet (fail)
              go_wp2_with fail
              go_roundg (l.length - (k + 1))
              case measure => omega
              case rel => exact ⟨k + 1, rfl, by omega, by go_num, HT.out, below_drewN HB.out _, HX1.out, HX2.out⟩
        · have HF := Lib.hid (show decide (l = m ∧ toL x = toL y) = true by
            have h1 := HTK.out
            rw [List.take_of_length_le (by omega), List.take_of_length_le (by have := HLM.out; omega)] at h1
            exact decide_eq_true ⟨h1, HXY.out⟩)
          go_wp2_with fail
          go_ret
          exact ⟨ret_bool HF.out.symm, HB.out⟩
  · have hlm' : ((l.length : Int) != (m.length : Int)) = true := by rw [bne_iff_ne]; omega
    have H := Lib.hid (show decide (l = m ∧ toL x = toL y) = false by simp only [decide_eq_false_iff_not]; rintro ⟨e, _⟩; exact hlm (by rw [e]))
    clear hlm
    go_enter Try.func28, Try.ntmps28
    go_wp2_with fail
    go_ret
    exact ⟨ret_bool H.out.symm, HB0.out⟩
end Go.Proofs.Ytcohgjdijhogbaa
