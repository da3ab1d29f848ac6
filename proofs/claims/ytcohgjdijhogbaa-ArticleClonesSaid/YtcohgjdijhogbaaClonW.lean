/- Walks over slices.Equal and slices.Clone at fields, and an article's Equal and Clone. -/
import Derived.Test.YtcohgjdijhogbaaTbA
import Derived.Test.YtcohgjdijhogbaaSame15
namespace Go.Proofs.Ytcohgjdijhogbaa
set_option linter.unusedSimpArgs false
set_option linter.unusedVariables false
open Go.RowKit

set_option maxHeartbeats 4000000 in
set_option maxRecDepth 100000 in
theorem sl_equalF (A B : Option Addr) (l m : List Fd) (c d : Nat) (w : World) (hr : Row w A (fldsV l)) (hq : Row w B (fldsV m)) (hl : l.length ≤ 1000000) (hm : m.length ≤ 1000000) :
    Calls Try.prog 43 #[.slice A l.length c, .slice B m.length d] w fun e w' => e = .returned (.bool (decide (l = m))) ∧ Below w.heap.size w w' := by
  have HR := Lib.hid hr; have HQ := Lib.hid hq; clear hr hq
  by_cases hlm : l.length = m.length
  · have hlm' : ((l.length : Int) != (m.length : Int)) = false := by simp [hlm]
    have HLM := Lib.hid hlm; clear hlm
    go_enter Try.func43, Try.ntmps43
    go_wp2_with fail
    go_loopw [13, 5] (fun ix _ wr => ∃ k : Nat, k ≤ l.length ∧ ix = .int .i64 k ∧ l.take k = m.take k ∧ Below w.heap.size w wr) (fun ix _ _ => l.length - (intOf ix).toNat)
    case atStart => exact ⟨0, by omega, rfl, rfl, Below.refl _ _⟩
    case round =>
      obtain ⟨k, hk, rfl, htk, hB⟩ := hrel
      have HTK := Lib.hid htk; clear htk
      by_cases hlt : k < l.length
      · have hlt2 : k < m.length := by have := HLM.out; omega
        have hk1 : (0 : Int) ≤ (k : Int) := by omega
        have hk2 : (k : Int) < (l.length : Int) := by omega
        have hk3 : (k : Int) < (m.length : Int) := by omega
        obtain ⟨bb, off, rfl, hbb, _⟩ := HR.out.at (k := 0) (by rw [fldsV_length]; omega)
        obtain ⟨bc, off2, rfl, hbc, _⟩ := HQ.out.at (k := 0) (by rw [fldsV_length]; omega)
        obtain ⟨n, hn⟩ : ∃ n, ofL l[k].1 = n := ⟨_, rfl⟩
        obtain ⟨b, hb⟩ : ∃ b, ofL l[k].2 = b := ⟨_, rfl⟩
        obtain ⟨n2, hn2⟩ : ∃ n2, ofL m[k].1 = n2 := ⟨_, rfl⟩
        obtain ⟨b2, hb2⟩ : ∃ b2, ofL m[k].2 = b2 := ⟨_, rfl⟩
        obtain ⟨hc1, hc2⟩ := (HR.out.below hB).field' hlt hn hb
        obtain ⟨hd1, hd2⟩ := (HQ.out.below hB).field' hlt2 hn2 hb2
        have HNB := Lib.hid (show l[k] = (toL n, toL b) from Prod.ext (by rw [← hn, toL_ofL]) (by rw [← hb, toL_ofL]))
        have HNB2 := Lib.hid (show m[k] = (toL n2, toL b2) from Prod.ext (by rw [← hn2, toL_ofL]) (by rw [← hb2, toL_ofL]))
        clear hn hb hn2 hb2
        rcases e1 : (n.toList == n2.toList) with _ | _
        · have HF := Lib.hid (show decide (l = m) = false by
            simp only [decide_eq_false_iff_not]; intro e; subst e
            have := HNB.out.symm.trans HNB2.out
            injection this with h1 h2
            rw [toL_inj h1] at e1; simp at e1)
          rcases e2 : (b.toList == b2.toList) with _ | _
          all_goals
            go_wp2_with fail
            go_quiet (fail)
            go_wp2_with fail
            go_ret
            exact ⟨ret_bool HF.out.symm, below_drewN hB _⟩
        · rcases e2 : (b.toList == b2.toList) with _ | _
          · have HF := Lib.hid (show decide (l = m) = false by
              simp only [decide_eq_false_iff_not]; intro e; subst e
              have := HNB.out.symm.trans HNB2.out
              injection this with h1 h2
              rw [toL_inj h2] at e2; simp at e2)
            go_wp2_with fail
            go_quiet (fail)
            go_wp2_with fail
            go_ret
            exact ⟨ret_bool HF.out.symm, below_drewN hB _⟩
          · have HT := Lib.hid (show l.take (k + 1) = m.take (k + 1) by
              rw [List.take_succ_eq_append_getElem hlt, List.take_succ_eq_append_getElem hlt2, HTK.out, HNB.out, HNB2.out]
              have h1 : n = n2 := toL_inj (by rw [ByteArray.toList_eq, ByteArray.toList_eq] at e1; exact eq_of_beq e1)
              have h2 : b = b2 := toL_inj (by rw [ByteArray.toList_eq, ByteArray.toList_eq] at e2; exact eq_of_beq e2)
              rw [h1, h2])
            go_wp2_with fail
            go_quiet (fail)
            go_wp2_with fail
            go_roundw
            case rel => exact ⟨k + 1, by omega, by go_num, HT.out, below_drewN hB _⟩
            case measure => simp [intOf] <;> omega
      · have HF := Lib.hid (show decide (l = m) = true by
          have h1 := HTK.out
          rw [List.take_of_length_le (by omega), List.take_of_length_le (by have := HLM.out; omega)] at h1
          simpa using h1)
        go_wp2_with fail
        go_ret
        exact ⟨ret_bool HF.out.symm, hB⟩
  · have hlm' : ((l.length : Int) != (m.length : Int)) = true := by rw [bne_iff_ne]; omega
    have H := Lib.hid (show decide (l = m) = false by simp; intro e; exact hlm (by rw [e]))
    clear hlm
    go_enter Try.func43, Try.ntmps43
    go_wp2_with fail
    go_ret
    exact ⟨ret_bool H.out.symm, Below.refl _ _⟩

theorem info_Fld9 : (Try.prog.info? 59).map (fun i => (i.zero, i.size, i.bytes)) = some (some (.agg #[.string ⟨#[]⟩, .string ⟨#[]⟩]), 2, 32) := by kernel_rfl
theorem el_Fld9 : Elem Try.prog 47 59 2 32 := Elem.of Try.underlying47 info_Fld9 rfl (by omega)
theorem fldsV_one9 (l : List Fd) : ∀ u ∈ fldsV l, u.oneCell' = true := by
  intro u hu
  simp only [fldsV, List.mem_flatMap] at hu
  obtain ⟨f, _, hf⟩ := hu
  simp at hf
  rcases hf with rfl | rfl <;> rfl
set_option maxHeartbeats 4000000 in
set_option maxRecDepth 100000 in
theorem sl_cloneF (A : Option Addr) (l : List Fd) (c : Nat) (w : World) (hr : Row w A (fldsV l)) (hl : l.length ≤ 1000000) :
    Calls Try.prog 42 #[.slice A l.length c] w fun e w' => ∃ v, e = .returned v ∧ FldsOwn w w' 59 v l := by
  have q47 : ∀ (w : World) (a : Option Addr) (n c n' c' : Nat), (binOp .eql 47 (.slice a n c) (.slice none n' c')).run Try.prog w = .ok (.bool a.isNone) w := fun w a n c n' c' => Lib.run_eql_slice_nil w _ _ a n c n' c' Try.underlying47
  rcases A with _ | ad
  · obtain rfl : l = [] := by
      rcases hr with h | ⟨b, off, e, _⟩
      · have := fldsV_length l; rw [h] at this; simp at this; exact List.eq_nil_of_length_eq_zero (by omega)
      · cases e
    go_enter Try.func42, Try.ntmps42
    go_wp2_with fail
    go_ret
    exact ⟨_, rfl, World.ownsRow_nil _ _ _ _, Below.refl _ _⟩
  · have hown : (w.alloc (.cells #[] 59)).ownsRow w.heap.size 59 2 (.slice (some ⟨w.heap.size, 0, none⟩) 0 0) 0 [] :=
      ⟨rfl, .inr ⟨w.heap.size, 0, #[], rfl, Nat.le_refl _, heap_alloc_new _ _, Nat.le_refl _, by unfold maxLen; omega, rfl, rfl⟩⟩
    have HB := Lib.hid (show Below w.heap.size w (w.alloc (.cells #[] 59)) from (Below.refl _ _).alloc (Nat.le_refl _) _)
    have hr2 : Row (w.alloc (.cells #[] 59)) (some ad) (fldsV l) := hr.below HB.out
    go_enter Try.func42, Try.ntmps42
    go_wp2_with ((at_builtin; refine wpList_pour el_Fld9 rfl _ _ rfl hown rfl (A := some ad) (m := l.length) (c := c) (news := fldsV l) rfl hr2 (fldsV_length l) (fldsV_one9 l) ?q1 ?q2 ?q3 ?q4 ?_))
    case q1 => intro h; cases h
    case q2 => omega
    case q3 => unfold maxLen; omega
    case q4 => simp
    intro v' w2 hown2 hg2 _
    have hg3 := HB.out.grown hg2 (by simp) (by intro k hk; simp [Value.ownBlock] at hk; omega)
    go_wp2_with fail
    go_ret
    exact ⟨_, rfl, by simpa using hown2, hg3⟩

theorem clone_ret {Q : Ending → World → Prop} {W : World} {r : Nat} {v : Value} {b : ByteArray} {T : Array Value} (hb : W.heap[r]? = some (.cells #[v, .string b] 49 (0, 0)))
    (hT2 : T[2]? = some (.pointer (some ⟨r, 0, none⟩))) (hQ : Q (.returned (.agg #[v, .string b])) W) :
    bodyPost Try.prog Try.f27 Q .ret { tmps := T, defers := [] } W := by
  have c0 : W.cell? ⟨r, 0, none⟩ = some v := by rw [Lib.cell_of_heap hb]; rfl
  have c1 : W.cell? ⟨r, 1, none⟩ = some (.string b) := by rw [Lib.cell_of_heap hb]; rfl
  refine bodyPost_ret (v := .agg #[v, .string b]) ?_ rfl hQ
  simp [results, Try.f27, go_sem, hT2, c0, c1]
set_option maxHeartbeats 4000000 in
set_option maxRecDepth 100000 in
theorem art_clone (A : Option Addr) (l : List Fd) (c : Nat) (b : ByteArray) (w : World) (hr : Row w A (fldsV l)) (hl : l.length ≤ 1000000) :
    Calls Try.prog 27 #[.agg #[.slice A l.length c, .string b]] w fun e w' => ∃ A2 c2, e = .returned (.agg #[.slice A2 l.length c2, .string b]) ∧ FldsOwn w w' 59 (.slice A2 l.length c2) l := by
  have HB0 := Lib.hid (show Below w.heap.size w ((w.alloc (.cells #[.slice A l.length c, .string b] 49)).alloc (.cells #[.slice none 0 0, .string ⟨#[]⟩] 49)) from ((Below.refl _ _).alloc (Nat.le_refl _) _).alloc (by simp) _)
  have HRW := Lib.hid (hr.below HB0.out)
  have HX2 := Lib.hid (two_boxes (w := w) (Below.refl _ ((w.alloc (.cells #[.slice A l.length c, .string b] 49)).alloc (.cells #[.slice none 0 0, .string ⟨#[]⟩] 49))))
  have HSZ := Lib.hid (show ((w.alloc (.cells #[.slice A l.length c, .string b] 49)).alloc (.cells #[.slice none 0 0, .string ⟨#[]⟩] 49)).heap.size = w.heap.size + 2 from by simp)
  clear hr
  go_enter Try.func27, Try.ntmps27
  go_wp2_with fail
  generalize (w.alloc (.cells #[.slice A l.length c, .string b] 49)).alloc (.cells #[.slice none 0 0, .string ⟨#[]⟩] 49) = W at *
  have p0 : W.cell? ⟨w.heap.size, 0, none⟩ = some (.slice A l.length c) := by rw [Lib.cell_of_heap HX2.out.1]; rfl
  have p1 : W.cell? ⟨w.heap.size, 1, none⟩ = some (.string b) := by rw [Lib.cell_of_heap HX2.out.1]; rfl
  have HCL := Lib.hid (sl_cloneF A l c W.drew (HRW.out.below (below_drewN (Below.refl _ _) 1)) hl)
  have z1 : w.heap.size < W.heap.size := heap_lt HX2.out.1
  have z2 : w.heap.size + 1 < W.heap.size := heap_lt HX2.out.2
  go_region_with ((go_at_call 42; (with_reducible refine HCL.out.mono ?_); rintro e w2 ⟨v, rfl, hown⟩; obtain ⟨A2, c2, rfl, hr2⟩ := own_row hown.own; have HG1 := Lib.hid (show w2.heap[w.heap.size]? = _ from (hown.bel.block w.heap.size z1).trans HX2.out.1); have HG2 := Lib.hid (show w2.heap[w.heap.size + 1]? = _ from (hown.bel.block (w.heap.size + 1) z2).trans HX2.out.2); have p1' : w2.cell? ⟨w.heap.size, 1, none⟩ = some (.string b) := (by rw [Lib.cell_of_heap HG1.out]; rfl); have q0 : w2.cell? ⟨w.heap.size + 1, 0, none⟩ = some (.slice none 0 0) := (by rw [Lib.cell_of_heap HG2.out]; rfl); have q1 : w2.cell? ⟨w.heap.size + 1, 1, none⟩ = some (.string ⟨#[]⟩) := (by rw [Lib.cell_of_heap HG2.out]; rfl); have r0 := Lib.frozen_of_heap HG2.out 0; have r1 := Lib.frozen_of_heap HG2.out 1))
  all_goals
    go_wp2_with fail
    refine clone_ret (box_set HG2.out _ _) rfl ?_
    have hbw : Below w.heap.size w w2 := HB0.out.trans ((below_undrew hown.bel).mono HB0.out.size)
    have how : w2.ownsRow (w.heap.size + 1 + 1) 59 2 (.slice A2 l.length c2) l.length (fldsV l) := own_mono hown.own (by show _ ≤ W.heap.size; rw [HSZ.out]; exact Nat.le_refl _)
    exact ⟨A2, c2, rfl, own_mono (tb_own how _ _) (Nat.le_succ _), below_box hbw (Nat.le_succ _) _ _⟩

set_option maxHeartbeats 4000000 in
set_option maxRecDepth 100000 in
theorem art_equal (A B : Option Addr) (l m : List Fd) (c d : Nat) (x y : ByteArray) (w : World) (hr : Row w A (fldsV l)) (hq : Row w B (fldsV m)) (hl : l.length ≤ 1000000) (hm : m.length ≤ 1000000) :
    Calls Try.prog 29 #[.agg #[.slice A l.length c, .string x], .agg #[.slice B m.length d, .string y]] w fun e w' => e = .returned (.bool (decide (l = m ∧ toL x = toL y))) ∧ Below w.heap.size w w' := by
  have HB0 := Lib.hid (show Below w.heap.size w ((w.alloc (.cells #[.slice A l.length c, .string x] 49)).alloc (.cells #[.slice B m.length d, .string y] 49)) from ((Below.refl _ _).alloc (Nat.le_refl _) _).alloc (by simp) _)
  have HEQ := Lib.hid (sl_equalF A B l m c d _ (hr.below HB0.out) (hq.below HB0.out) hl hm)
  have HX := Lib.hid (fun (w' : World) (h : Below (w.heap.size + 2) ((w.alloc (.cells #[.slice A l.length c, .string x] 49)).alloc (.cells #[.slice B m.length d, .string y] 49)) w') => two_boxes h)
  have HSZ := Lib.hid (show ((w.alloc (.cells #[.slice A l.length c, .string x] 49)).alloc (.cells #[.slice B m.length d, .string y] 49)).heap.size = w.heap.size + 2 from by simp)
  clear hr hq
  by_cases hlm : l = m
  · rw [show decide (l = m) = true from decide_eq_true hlm] at HEQ
    rcases e0 : (x.toList == y.toList) with _ | _
    · have H := Lib.hid (show decide (l = m ∧ toL x = toL y) = false by
        simp only [decide_eq_false_iff_not]; rintro ⟨_, e⟩; rw [toL_inj e] at e0; simp at e0)
      clear hlm
      go_enter Try.func29, Try.ntmps29
      go_wp2_with fail
      generalize (w.alloc (.cells #[.slice A l.length c, .string x] 49)).alloc (.cells #[.slice B m.length d, .string y] 49) = W at *
      (with_reducible refine HEQ.out.mono ?_)
      rintro e w2 ⟨rfl, hb2⟩
      have HB2 := Lib.hid (HB0.out.trans (hb2.mono HB0.out.size))
      rw [HSZ.out] at hb2
      obtain ⟨g1, g2⟩ := HX.out w2 hb2
      have k1 : w2.cell? ⟨w.heap.size, 1, none⟩ = some (.string x) := by rw [Lib.cell_of_heap g1]; rfl
      have k2 : w2.cell? ⟨w.heap.size + 1, 1, none⟩ = some (.string y) := by rw [Lib.cell_of_heap g2]; rfl
      clear g1 g2 hb2
      go_wp2_with fail
      go_ret
      exact ⟨ret_bool H.out.symm, HB2.out⟩
    · have H := Lib.hid (show decide (l = m ∧ toL x = toL y) = true from decide_eq_true ⟨hlm, by rw [ByteArray.toList_eq, ByteArray.toList_eq] at e0; exact eq_of_beq e0⟩)
      clear hlm
      go_enter Try.func29, Try.ntmps29
      go_wp2_with fail
      generalize (w.alloc (.cells #[.slice A l.length c, .string x] 49)).alloc (.cells #[.slice B m.length d, .string y] 49) = W at *
      (with_reducible refine HEQ.out.mono ?_)
      rintro e w2 ⟨rfl, hb2⟩
      have HB2 := Lib.hid (HB0.out.trans (hb2.mono HB0.out.size))
      rw [HSZ.out] at hb2
      obtain ⟨g1, g2⟩ := HX.out w2 hb2
      have k1 : w2.cell? ⟨w.heap.size, 1, none⟩ = some (.string x) := by rw [Lib.cell_of_heap g1]; rfl
      have k2 : w2.cell? ⟨w.heap.size + 1, 1, none⟩ = some (.string y) := by rw [Lib.cell_of_heap g2]; rfl
      clear g1 g2 hb2
      go_wp2_with fail
      go_ret
      exact ⟨ret_bool H.out.symm, HB2.out⟩
  · rw [show decide (l = m) = false from decide_eq_false hlm] at HEQ
    have H := Lib.hid (show decide (l = m ∧ toL x = toL y) = false by simp only [decide_eq_false_iff_not]; rintro ⟨e, _⟩; exact hlm e)
    clear hlm
    go_enter Try.func29, Try.ntmps29
    go_wp2_with fail
    generalize (w.alloc (.cells #[.slice A l.length c, .string x] 49)).alloc (.cells #[.slice B m.length d, .string y] 49) = W at *
    (with_reducible refine HEQ.out.mono ?_)
    rintro e w2 ⟨rfl, hb2⟩
    have HB2 := Lib.hid (HB0.out.trans (hb2.mono HB0.out.size))
    clear hb2
    go_wp2_with fail
    go_ret
    exact ⟨ret_bool H.out.symm, HB2.out⟩
end Go.Proofs.Ytcohgjdijhogbaa
