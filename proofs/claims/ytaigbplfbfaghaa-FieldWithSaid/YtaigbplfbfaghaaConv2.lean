/- Walks over To, Of and Same. -/
import Derived.Test.YtaigbplfbfaghaaConv
namespace Go.Proofs.Ytaigbplfbfaghaa
set_option linter.unusedSimpArgs false
set_option linter.unusedVariables false
open Go.RowKit

set_option maxHeartbeats 4000000 in
set_option maxRecDepth 100000 in
theorem law_of (A : Option Addr) (l : List Fd) (c : Nat) (w : World) (hr : Row w A (fldsV l)) (hl : l.length ≤ 1000000) :
    Calls Try.prog 25 #[.slice A l.length c] w fun e w' => ∃ v, e = .returned v ∧ FldsOwn w w' 25 v l := by
  have HR := Lib.hid hr; clear hr
  obtain ⟨i0, hi0, hz0, hz1, hz2⟩ := info_parts info_F
  go_enter Try.func25, Try.ntmps25
  go_wp2_with fail
  go_loopg [3, 4] l.length (fun g v ix wr => ∃ k : Nat, g = l.length - k ∧ k ≤ l.length ∧ ix = .int .i64 k ∧ FldsOwn w wr 25 v (l.take k))
  case atStart => exact ⟨0, by omega, by omega, rfl, ⟨World.ownsRow_nil _ _ _ _, Below.refl _ _⟩⟩
  case round =>
    obtain ⟨k, rfl, hk, rfl, hF⟩ := hrel
    by_cases hlt : k < l.length
    · have hk1 : (0 : Int) ≤ (k : Int) := by omega
      have hk2 : (k : Int) < (l.length : Int) := by omega
      obtain ⟨bb, off, rfl, hbb, _⟩ := HR.out.at (k := 0) (by rw [fldsV_length]; omega)
      obtain ⟨n, hn⟩ : ∃ n, ofL l[k].1 = n := ⟨_, rfl⟩
      obtain ⟨b, hb⟩ : ∃ b, ofL l[k].2 = b := ⟨_, rfl⟩
      have hnL : l[k].1 = toL n := by rw [← hn, toL_ofL]
      have hbL : l[k].2 = toL b := by rw [← hb, toL_ofL]
      obtain ⟨hc1, hc2⟩ := (HR.out.below hF.bel).field' hlt hn hb
      have HNB := Lib.hid (show l[k] = (toL n, toL b) from Prod.ext hnL hbL)
      clear hn hb hnL hbL
      have hlen : (l.take k).length = k := by simp; omega
      have hown := hF.own
      have hsz := hF.bel.size
      have lg := World.block_lt_of_cell? wr _ hc1
      have ag : ∀ g, _ = some g → w.heap.size ≤ g := fun g hg => (hF.own.lt g hg).1
      have AG := Lib.hid ag; clear ag
      go_wp2_with fail
      go_region_held3 (fun w' => w'.cell? ⟨bb, off + k * 2, none⟩ = some (.string n) ∧ w'.cell? ⟨bb, off + k * 2 + 1, none⟩ = some (.string b))
        (first
          | go_keep
          | (go_split_ands
             refine ⟨?_, ?_⟩
             · (rw [hgrow.cell_far _ (by simp; omega) (fun e => by have := AG.out bb e.symm; omega)]; assumption)
             · (rw [hgrow.cell_far _ (by simp; omega) (fun e => by have := AG.out bb e.symm; omega)]; assumption)))
        ((refine step_append_lies _ (by rfl) _ _ _ (by rfl) w.heap.size 25 i0 _ 2 32 Try.underlying26 hi0 hz0 hz1 hz2 rfl (by omega) _ _ _ (by rfl) ((hown.alloc _).drew)
            ⟨wr.heap.size, 0, none⟩ 1 1 [.string n, .string b] (by rfl) (by rfl) (World.news_of_block (cs := #[.string n, .string b]) (t := 25) (fr := (0, 0)) (heap_alloc_new wr _)) (by simp [Value.oneCell'])
            (by omega) (by rw [hlen]; unfold maxLen; omega) (by rw [hlen]; omega) (by simp; omega) (wr.heap.size + 1) (by simp) ?_; intro gg cap w1 hown1 hgrow hat hlt1))
      all_goals
        have hF1 : FldsOwn w w1 25 (.slice (some ⟨gg, 0, none⟩) (k + 1) cap) (l.take (k + 1)) := by
          have := hF.push hown1 hgrow
          rw [hlen] at this
          rw [List.take_succ_eq_append_getElem hlt, HNB.out]
          exact this
        clear hown1 hgrow hat hlt1 hc1 hc2
        go_wp2_with fail
        go_roundg (l.length - (k + 1))
        case measure => omega
        case rel => exact ⟨k + 1, rfl, by omega, by go_num, hF1⟩
    · have HE := Lib.hid (show l.take k = l by rw [List.take_of_length_le (by omega)])
      go_wp2_with fail
      go_ret
      rw [HE.out] at hF
      exact ⟨_, rfl, hF⟩

theorem info_Fld : (Try.prog.info? 28).map (fun i => (i.zero, i.size, i.bytes)) = some (some (.agg #[.string ⟨#[]⟩, .string ⟨#[]⟩]), 2, 32) := by kernel_rfl

set_option maxHeartbeats 4000000 in
set_option maxRecDepth 100000 in
theorem law_to (A : Option Addr) (l : List Fd) (c : Nat) (w : World) (hr : Row w A (fldsV l)) (hl : l.length ≤ 70) :
    Calls Try.prog 21 #[.slice A l.length c] w fun e w' => ∃ v, e = .returned v ∧ FldsOwn w w' 28 v l := by
  have HR := Lib.hid hr; clear hr
  obtain ⟨i0, hi0, hz0, hz1, hz2⟩ := info_parts info_Fld
  go_enter Try.func21, Try.ntmps21
  go_wp2_with fail
  go_loopg [3, 4] l.length (fun g v ix wr => ∃ k : Nat, g = l.length - k ∧ k ≤ l.length ∧ ix = .int .i64 k ∧ FldsOwn w wr 28 v (l.take k))
  case atStart => exact ⟨0, by omega, by omega, rfl, ⟨World.ownsRow_nil _ _ _ _, Below.refl _ _⟩⟩
  case round =>
    obtain ⟨k, rfl, hk, rfl, hF⟩ := hrel
    by_cases hlt : k < l.length
    · have hk1 : (0 : Int) ≤ (k : Int) := by omega
      have hk2 : (k : Int) < (l.length : Int) := by omega
      have hk3 : decide ((k : Int) < 70) = true := by simp; omega
      obtain ⟨bb, off, rfl, hbb, _⟩ := HR.out.at (k := 0) (by rw [fldsV_length]; omega)
      obtain ⟨n, hn⟩ : ∃ n, ofL l[k].1 = n := ⟨_, rfl⟩
      obtain ⟨b, hb⟩ : ∃ b, ofL l[k].2 = b := ⟨_, rfl⟩
      have hnL : l[k].1 = toL n := by rw [← hn, toL_ofL]
      have hbL : l[k].2 = toL b := by rw [← hb, toL_ofL]
      obtain ⟨hc1, hc2⟩ := (HR.out.below hF.bel).field' hlt hn hb
      have HNB := Lib.hid (show l[k] = (toL n, toL b) from Prod.ext hnL hbL)
      clear hn hb hnL hbL
      have hlen : (l.take k).length = k := by simp; omega
      have hown := hF.own
      have hsz := hF.bel.size
      have lg := World.block_lt_of_cell? wr _ hc1
      have ag : ∀ g, _ = some g → w.heap.size ≤ g := fun g hg => (hF.own.lt g hg).1
      have AG := Lib.hid ag; clear ag
      go_wp2_with fail
      go_region_held3 (fun w' => w'.cell? ⟨bb, off + k * 2, none⟩ = some (.string n) ∧ w'.cell? ⟨bb, off + k * 2 + 1, none⟩ = some (.string b))
        (first
          | go_keep
          | (go_split_ands
             refine ⟨?_, ?_⟩
             · (rw [hgrow.cell_far _ (by simp; omega) (fun e => by have := AG.out bb e.symm; omega)]; assumption)
             · (rw [hgrow.cell_far _ (by simp; omega) (fun e => by have := AG.out bb e.symm; omega)]; assumption)))
        ((refine step_append_lies _ (by rfl) _ _ _ (by rfl) w.heap.size 28 i0 _ 2 32 Try.underlying39 hi0 hz0 hz1 hz2 rfl (by omega) _ _ _ (by rfl) ((hown.alloc _).drew)
            ⟨wr.heap.size, 0, none⟩ 1 1 [.string n, .string b] (by rfl) (by rfl) (World.news_of_block (cs := #[.string n, .string b]) (t := 28) (fr := (0, 0)) (heap_alloc_new wr _)) (by simp [Value.oneCell'])
            (by omega) (by rw [hlen]; unfold maxLen; omega) (by rw [hlen]; omega) (by simp; omega) (wr.heap.size + 1) (by simp) ?_; intro gg cap w1 hown1 hgrow hat hlt1))
      all_goals
        have hF1 : FldsOwn w w1 28 (.slice (some ⟨gg, 0, none⟩) (k + 1) cap) (l.take (k + 1)) := by
          have := hF.push hown1 hgrow
          rw [hlen] at this
          rw [List.take_succ_eq_append_getElem hlt, HNB.out]
          exact this
        clear hown1 hgrow hat hlt1 hc1 hc2
        go_wp2_with fail
        go_roundg (l.length - (k + 1))
        case measure => omega
        case rel => exact ⟨k + 1, rfl, by omega, by go_num, hF1⟩
    · have HE := Lib.hid (show l.take k = l by rw [List.take_of_length_le (by omega)])
      go_wp2_with fail
      go_ret
      rw [HE.out] at hF
      exact ⟨_, rfl, hF⟩

set_option maxHeartbeats 4000000 in
set_option maxRecDepth 100000 in
theorem ref_same (A B : Option Addr) (l m : List Fd) (c d : Nat) (w : World) (hr : Row w A (fldsV l)) (hq : Row w B (fldsV m)) (hl : l.length ≤ 1000000) (hm : m.length ≤ 1000000) :
    Calls Try.prog 24 #[.slice A l.length c, .slice B m.length d] w fun e w' => e = .returned (.bool (decide (l = m))) ∧ Below w.heap.size w w' := by
  have HR := Lib.hid hr; have HQ := Lib.hid hq; clear hr hq
  by_cases hlm : l.length = m.length
  · have hlm' : ((l.length : Int) != (m.length : Int)) = false := by simp [hlm]
    have HLM := Lib.hid hlm; clear hlm
    go_enter Try.func24, Try.ntmps24
    go_wp2_with fail
    go_loopg [5] l.length (fun g ix wr => ∃ k : Nat, g = l.length - k ∧ k ≤ l.length ∧ ix = .int .i64 k ∧ l.take k = m.take k ∧ Below w.heap.size w wr)
    case atStart => exact ⟨0, by omega, by omega, rfl, rfl, Below.refl _ _⟩
    case round =>
      obtain ⟨k, rfl, hk, rfl, htk, hB⟩ := hrel
      have HTK := Lib.hid htk; clear htk
      by_cases hlt : k < l.length
      · have hlt2 : k < m.length := by have := HLM.out; omega
        have hk1 : (0 : Int) ≤ (k : Int) := by omega
        have hk2 : (k : Int) < (l.length : Int) := by omega
        have hk3 : (k : Int) < (m.length : Int) := by omega
        obtain ⟨bb, off, rfl, hbb, _⟩ := HR.out.at (k := 0) (by rw [fldsV_length]; omega)
        obtain ⟨bc, off2, rfl, hbc, _⟩ := HQ.out.at (k := 0) (by rw [fldsV_length]; omega)
        obtain ⟨n, hn⟩ : ∃ n, ofL l[k].1 = n := ⟨_, rfl⟩
        obtain ⟨b, hb⟩ : ∃ b, ofL l[k].2 = b := ⟨_, rfl⟩
        obtain ⟨n2, hn2⟩ : ∃ n2, ofL m[k].1 = n2 := ⟨_, rfl⟩
        obtain ⟨b2, hb2⟩ : ∃ b2, ofL m[k].2 = b2 := ⟨_, rfl⟩
        obtain ⟨hc1, hc2⟩ := (HR.out.below hB).field' hlt hn hb
        obtain ⟨hd1, hd2⟩ := (HQ.out.below hB).field' hlt2 hn2 hb2
        have HNB := Lib.hid (show l[k] = (toL n, toL b) from Prod.ext (by rw [← hn, toL_ofL]) (by rw [← hb, toL_ofL]))
        have HNB2 := Lib.hid (show m[k] = (toL n2, toL b2) from Prod.ext (by rw [← hn2, toL_ofL]) (by rw [← hb2, toL_ofL]))
        clear hn hb hn2 hb2
        rcases e1 : (n.toList == n2.toList) with _ | _
        · have HF := Lib.hid (show decide (l = m) = false by
            simp only [decide_eq_false_iff_not]; intro e; subst e
            have := HNB.out.symm.trans HNB2.out
            injection this with h1 h2
            rw [toL_inj h1] at e1; simp at e1)
          rcases e2 : (b.toList == b2.toList) with _ | _
          all_goals
            go_wp2_with fail
            go_quiet (fail)
            go_wp2_with fail
            go_ret
            exact ⟨ret_bool HF.out.symm, below_drewN hB _⟩
        · rcases e2 : (b.toList == b2.toList) with _ | _
          · have HF := Lib.hid (show decide (l = m) = false by
              simp only [decide_eq_false_iff_not]; intro e; subst e
              have := HNB.out.symm.trans HNB2.out
              injection this with h1 h2
              rw [toL_inj h2] at e2; simp at e2)
            go_wp2_with fail
            go_quiet (fail)
            go_wp2_with fail
            go_ret
            exact ⟨ret_bool HF.out.symm, below_drewN hB _⟩
          · have HT := Lib.hid (show l.take (k + 1) = m.take (k + 1) by
              rw [List.take_succ_eq_append_getElem hlt, List.take_succ_eq_append_getElem hlt2, HTK.out, HNB.out, HNB2.out]
              have h1 : n = n2 := toL_inj (by rw [ByteArray.toList_eq, ByteArray.toList_eq] at e1; exact eq_of_beq e1)
              have h2 : b = b2 := toL_inj (by rw [ByteArray.toList_eq, ByteArray.toList_eq] at e2; exact eq_of_beq e2)
              rw [h1, h2])
            go_wp2_with fail
            go_quiet (fail)
            go_wp2_with fail
            go_roundg (l.length - (k + 1))
            case measure => omega
            case rel => exact ⟨k + 1, rfl, by omega, by go_num, HT.out, below_drewN hB _⟩
      · have HF := Lib.hid (show decide (l = m) = true by
          have h1 := HTK.out
          rw [List.take_of_length_le (by omega), List.take_of_length_le (by have := HLM.out; omega)] at h1
          simpa using h1)
        go_wp2_with fail
        go_ret
        exact ⟨ret_bool HF.out.symm, hB⟩
  · have hlm' : ((l.length : Int) != (m.length : Int)) = true := by rw [bne_iff_ne]; omega
    have H := Lib.hid (show decide (l = m) = false by simp; intro e; exact hlm (by rw [e]))
    clear hlm
    go_enter Try.func24, Try.ntmps24
    go_wp2_with fail
    go_ret
    exact ⟨ret_bool H.out.symm, Below.refl _ _⟩

end Go.Proofs.Ytaigbplfbfaghaa
