/- Lemmas and walks, part 12. -/
import Derived.Test.YtghjgbkhhoaebaaGreatDoorPn7
import Derived.Test.YtghjgbkhhoaebaaGreatDoorPn11
import Derived.Test.YtghjgbkhhoaebaaGreatDoorPn6
import Derived.Lib.ConvBytes
namespace Go.Proofs.YtghjgbkhhoaebaaGreatDoor
set_option linter.unusedSimpArgs false
set_option linter.unusedVariables false
open Go.RowKit Go.Shelf
attribute [local go_sem] Oper.semAt_some

def ctlX (x : RnT) : Bool := ctlU x.1.2
/-- None of these is a control character. -/
def NoC (pre : List RnT) : Prop := ∀ x ∈ pre, ctlX x = false
theorem NoC.nil : NoC [] := fun _ h => by cases h
theorem NoC.snoc {pre : List RnT} {x : RnT} (h : NoC pre) (hx : ctlX x = false) : NoC (pre ++ [x]) := by
  intro y hy
  rcases List.mem_append.1 hy with hy | hy
  · exact h y hy
  · simp at hy; subst hy; exact hx
/-- The last of these is one. -/
def LastC (pre : List RnT) : Prop := ∃ ini last, pre = ini ++ [last] ∧ ctlX last = true
theorem ctl_none {L : List UInt8} {xs : List RnT} (h : AllRn L xs) (hn : NoC xs) (h0 : (chkF L).2 = 0) : ctlB L = false := by
  unfold ctlB
  rw [← h, h0]
  simp only [ne_eq, not_true_eq_false, decide_false, Bool.or_false]
  rw [List.any_eq_false]
  intro y hy
  obtain ⟨x, hx, rfl⟩ := List.mem_map.1 hy
  have := hn x hx
  unfold ctlX at this
  simp [this]
theorem ctl_some {L : List UInt8} {pre : List RnT} (h : SomeRn L pre) (hl : LastC pre) : ctlB L = true := by
  obtain ⟨ini, last, rfl, h2⟩ := hl
  obtain ⟨r, hr⟩ := h
  unfold ctlB
  rw [← hr]
  simp only [List.map_append, List.map_cons, List.map_nil, List.any_append, List.any_cons, List.any_nil]
  unfold ctlX at h2
  simp [h2]
theorem ctl_bad {L : List UInt8} (h : (chkF L).2 ≠ 0) : ctlB L = true := by unfold ctlB; simp [h]

set_option maxHeartbeats 2000000 in
set_option maxRecDepth 100000 in
theorem u8_isControl (x : Int) (w : World) : Calls Tryz.prog 115 #[.int .i32 x] w fun e w' => e = .returned (.bool (ctlI x)) ∧ w = w' := by
  by_cases h1 : x < 32
  · have HV := Lib.hid (show ctlI x = true from by unfold ctlI; simp [h1])
    have h1' : x ≤ 31 := by omega
    clear h1
    go_enter Tryz.func115, Tryz.ntmps115
    go_wp2_with fail
    go_ret
    exact ⟨ret_bool (by rw [HV.out]), rfl⟩
  · have h1' : 31 < x := by omega
    rcases e1 : (x == 8232) with _ | _
    all_goals
      rcases e2 : (x == 8233) with _ | _
      all_goals
        by_cases h2 : 127 ≤ x
        · by_cases h3 : x ≤ 159
          · have HV := Lib.hid (show ctlI x = true from by unfold ctlI; simp [h2, h3])
            clear h1
            go_enter Tryz.func115, Tryz.ntmps115
            go_wp2_with fail
            go_ret
            exact ⟨ret_bool (by rw [HV.out]), rfl⟩
          · have HV := Lib.hid (show ctlI x = (((x == 8232)) || (x == 8233)) from by unfold ctlI; simp [h1, h3])
            rw [e1, e2] at HV
            have h3' : 159 < x := by omega
            clear h1 h3
            go_enter Tryz.func115, Tryz.ntmps115
            go_wp2_with fail
            go_ret
            exact ⟨ret_bool (by rw [HV.out]; first | done | rfl | (simp; omega)), rfl⟩
        · have HV := Lib.hid (show ctlI x = (((x == 8232)) || (x == 8233)) from by unfold ctlI; simp [h1, h2])
          rw [e1, e2] at HV
          have h2' : x < 127 := by omega
          clear h1 h2
          go_enter Tryz.func115, Tryz.ntmps115
          go_wp2_with fail
          go_ret
          exact ⟨ret_bool (by rw [HV.out]; first | done | rfl | (simp; omega)), rfl⟩


set_option maxHeartbeats 400000 in
theorem u8_valid (s : ByteArray) (w : World) (hs : s.size ≤ 100000000) : Calls Tryz.prog 114 #[.string s] w fun e w' => e = .returned (.bool (decide ((chkF (toL s)).2 = 0))) ∧ Drew w w' := by
  have HC := Lib.hid (u8_check s w hs)
  generalize chkF (toL s) = ck at *
  obtain ⟨a, er⟩ := ck
  simp only at HC
  by_cases h : er = 0
  · subst h
    go_enter Tryz.func114, Tryz.ntmps114
    go_wp2_with ((go_at_call 128; (with_reducible refine HC.out.mono ?_); rintro e w' ⟨rfl, hd⟩))
    go_ret
    exact ⟨rfl, hd⟩
  · have e1 : (er == 0) = false := beq_eq_false_iff_ne.2 h
    have HD := Lib.hid (show decide (er = 0) = false from decide_eq_false h)
    clear h
    go_enter Tryz.func114, Tryz.ntmps114
    go_wp2_with ((go_at_call 128; (with_reducible refine HC.out.mono ?_); rintro e w' ⟨rfl, hd⟩))
    go_ret
    exact ⟨ret_bool (by rw [HD.out]), hd⟩
/-- The way out behind a loop over an iterator: one boxed result. -/
theorem retBoxB {W w : World} {D : Nat} {v v' : Bool} {T : Array Value} (hb : Boxed W w.heap.size 4 (.bool v)) (hB : Below w.heap.size w W) (hK : W.heap[D]? = some (.deferred (some []))) (hD : w.heap.size ≤ D) (hv : v = v') (hT : T[2]? = some (.pointer (some ⟨w.heap.size, 0, none⟩))) :
    bodyPostM Fence.wide 9 Tryz.prog Tryz.f85 (fun e w' => e = .returned (.bool v') ∧ Below w.heap.size w w') .ret { tmps := T, defers := [{ target := .collected D, args := #[] }] } W := by
  subst hv
  have hc := cell_kept hb.cell (grownBy_putObj' W D (.deferred none)) (fun r e => by cases e; exact ⟨_, hK, rfl⟩)
  refine ⟨by simp, .inl ⟨_, _, rfl, run_takeDeferred hK, ?_⟩⟩
  refine ⟨.bool v, ?_, rfl, hB.trans (belowK_b (w := w) (Nat.le_refl _) W D _ _ hD hK rfl rfl)⟩
  simp [results, Tryz.f85, go_sem, hT, hc]
set_option maxRecDepth 100000 in
set_option maxHeartbeats 4000000 in
theorem u8_printable (s : ByteArray) (w : World) (hs : s.size ≤ 900000) : Calls Tryz.prog 85 #[.string s] w fun e w' => e = .returned (.bool (!ctlB (toL s))) ∧ Below w.heap.size w w' := by
  have HVAL := Lib.hid (fun wx => u8_valid s wx (by omega))
  refine (callsIn_wide (n := 9)).1 ?_
  refine callsIn_of_wp_marks Tryz.func85 rfl trivial ?_ rfl
  simp only [Tryz.ntmps85, List.size_toArray, List.length_cons, List.length_nil, Nat.reduceAdd, Nat.reduceSub, Array.replicate_succ, Array.replicate_zero, List.push_toArray, List.append_toArray, List.nil_append, List.cons_append]
  have bR := Boxed.new w 4 (.bool false)
  by_cases h0 : (chkF (toL s)).2 = 0
  · have HV0 := Lib.hid h0
    rw [show decide ((chkF (toL s)).2 = 0) = true from decide_eq_true h0] at HVAL
    clear h0
    gi_wp2_with (first | (refine ⟨trivial, ?_⟩; gi_at_call 114; refine (callsIn_wide.2 (HVAL.out _)).mono ?_; rintro e w' ⟨rfl, nd, rfl⟩) | (refine ⟨trivial, ?_⟩; gi_at_call 102; refine (art_runes s _ _).mono ?_; rintro e w' ⟨rfl, rfl⟩))
    have bR2 : Boxed ((w.alloc (.cells #[.bool false] 4)).drewN nd) w.heap.size 4 (.bool false) := bR
    have bN := Boxed.new ((w.alloc (.cells #[.bool false] 4)).drewN nd) 9 (.string s)
    have hsz : ((w.alloc (.cells #[.bool false] 4)).drewN nd).heap.size = w.heap.size + 1 := by show (w.alloc (.cells #[.bool false] 4)).heap.size = _; simp
    rw [hsz] at bN
    have hB0 : Below w.heap.size w (((w.alloc (.cells #[.bool false] 4)).drewN nd).alloc (.cells #[.string s] 9)) := (below_drewN ((Below.refl _ w).alloc (Nat.le_refl _) _) nd).alloc (by rw [hsz]; omega) _
    generalize (w.alloc (.cells #[.bool false] 4)).drewN nd = w1 at *
    refine wpIn_rangeFunc_ownG (a₁ := ?a1) rfl (by omega) (gf := 123) (lb := #[.pointer (some ⟨w.heap.size + 1, 0, none⟩)]) rfl trivial (enters_of Tryz.func123 (by kernel_rfl) rfl)
      (runes_stops _ (by omega) (Below (w.heap.size + 2)) _ (w.heap.size + 1) (by rw [World.size_alloc]; omega) s (fun _ _ h1 h2 => (h1.cell (p := ⟨w.heap.size + 1, 0, none⟩) (by simp)).trans h2) hs bN.cell) belowK_t (belowK_b (by rw [World.size_alloc]; omega)) (Below.refl _ _) (fun _ => rfl)
      (fun pre W => (NoC pre ∧ Boxed W w.heap.size 4 (.bool false)) ∧ Below w.heap.size w W)
      (fun c pre W => (c = .ret ∧ LastC pre ∧ Boxed W w.heap.size 4 (.bool false)) ∧ Below w.heap.size w W)
      (OwnFrom.and (OwnFrom.and (ownFrom_pure _ _) (Own.from (boxed_own _ _ _) _)) (ownFrom_below (Nat.le_refl _) (by simp; omega)))
      (fun c => OwnFrom.and (Own.from (fun s A B row hs hg hr => ⟨hs.1, hs.2.1, boxed_own _ _ (fun _ => .bool false) s A B row hs.2.2 hg hr⟩) _) (ownFrom_below (Nat.le_refl _) (by simp; omega)))
      ⟨⟨NoC.nil, bR2.alloc _⟩, hB0⟩ ?assign ?body ?done ?stop
    case assign =>
      intro l x W K hK
      gi_wp2
      exact hK
    case body =>
      rintro l pre ⟨⟨o, r⟩, hx⟩ W ⟨⟨hn, hb⟩, hB⟩ _
      have HN := Lib.hid hn; have HBW := Lib.hid hB
      have hcell := hb.cell; have hfr := hb.frozen
      have HBX := Lib.hid hb
      clear hn hB hb bR bR2 bN hB0
      have HCT := Lib.hid (fun wx => u8_isControl (r : Int) wx)
      rw [ctlI_nat] at HCT
      dsimp only
      rcases hc : ctlU r with _ | _
      · rw [hc] at HCT
        have HH := Lib.hid (show ctlX ⟨(o, r), hx⟩ = false from hc)
        clear hc
        gi_wp2_with (refine ⟨trivial, ?_⟩; gi_at_call 115; refine (CallsIn.inRound l (callsIn_wide.2 (HCT.out _))).mono ?_; rintro e w' ⟨rfl, rfl⟩)
        exact ⟨KeepsFrom.refl _ _, Below.refl _ _, ⟨HN.out.snoc HH.out, HBX.out⟩, HBW.out⟩
      · rw [hc] at HCT
        have HH := Lib.hid (show ctlX ⟨(o, r), hx⟩ = true from hc)
        clear hc
        gi_wp2_with (refine ⟨trivial, ?_⟩; gi_at_call 115; refine (CallsIn.inRound l (callsIn_wide.2 (HCT.out _))).mono ?_; rintro e w' ⟨rfl, rfl⟩)
        exact ⟨(KeepsOthers.setCell _ _ _).from _, ⟨rfl, ⟨pre, _, rfl, HH.out⟩, HBX.out.set _⟩, HBW.out.setCell (p := ⟨w.heap.size, 0, none⟩) (Nat.le_refl _) _⟩
    case done =>
      rintro D ys W hD hS ⟨⟨hn, hb⟩, hB⟩ hK
      have HV := Lib.hid (ctl_none hS hn HV0.out)
      have hcell := hb.cell; have hfr := hb.frozen
      simp only [World.size_alloc] at hD
      gi_wp2
      exact retBoxB (hb.set _) (hB.setCell (p := ⟨w.heap.size, 0, none⟩) (Nat.le_refl _) _) ((KeepsOthers.setCell W _ _).same D _ hK rfl) (by omega) (by rw [HV.out]; rfl) rfl
    case stop =>
      rintro D c pre W hD hS ⟨⟨rfl, hl, hb⟩, hB⟩ hK
      have HV := Lib.hid (ctl_some hS hl)
      simp only [World.size_alloc] at hD
      gi_wp2
      exact retBoxB hb hB hK (by omega) (by rw [HV.out]; rfl) rfl
  · rw [show decide ((chkF (toL s)).2 = 0) = false from decide_eq_false h0] at HVAL
    have HV := Lib.hid (ctl_bad h0)
    clear h0
    gi_wp2_with (refine ⟨trivial, ?_⟩; gi_at_call 114; refine (callsIn_wide.2 (HVAL.out _)).mono ?_; rintro e w' ⟨rfl, nd, rfl⟩)
    have bT : Boxed ((w.alloc (.cells #[.bool false] 4)).drewN nd) w.heap.size 4 (.bool false) := bR
    have bS := bT.set (.bool false)
    refine ⟨.bool false, ?_, by rw [HV.out]; rfl, (below_drewN ((Below.refl _ w).alloc (Nat.le_refl _) _) nd).setCell (p := ⟨w.heap.size, 0, none⟩) (Nat.le_refl _) _⟩
    have r1 := bS.cell
    simp [results, Tryz.f85, go_sem, r1]
end Go.Proofs.YtghjgbkhhoaebaaGreatDoor

namespace Go.Proofs.YtghjgbkhhoaebaaGreatDoor
set_option linter.unusedSimpArgs false
set_option linter.unusedVariables false
open Go.RowKit

theorem any_step (l : List (Nat × Nat)) (k : Nat) (h : k < l.length) : (l.drop k).any (fun x => ctlU x.2) = (ctlU l[k].2 || (l.drop (k + 1)).any fun x => ctlU x.2) := by
  rw [List.drop_eq_getElem_cons h, List.any_cons]
set_option maxHeartbeats 2000000 in
set_option maxRecDepth 100000 in
theorem lw_control (s : ByteArray) (w : World) (hs : s.size ≤ 1000000) : Calls Tryz.prog 150 #[.string s] w fun e w' => e = .returned (.bool (ctlB (toL s))) ∧ Below w.heap.size w w' := by
  have HLN := Lib.hid (show (allF (toL s) 0).1.length ≤ 1000001 from by
    have := all_len ((toL s).length + 1) (toL s) 0
    rw [toL_length] at this; exact Nat.le_trans this (by omega))
  have HB0 := Lib.hid (show ctlB (toL s) = ((allF (toL s) 0).1.any (fun x => ctlU x.2) || decide ((chkF (toL s)).2 ≠ 0)) from rfl)
  go_enter Tryz.func150, Tryz.ntmps150
  go_wp2_with fail
  (with_reducible refine (r3_all s w hs).mono ?_)
  intro e w1 hpost
  obtain ⟨va, vb, rfl, ⟨Aa, ca, rfl, hra⟩, ⟨Ab, cb, rfl, hrb⟩, hb1⟩ := hpost
  generalize (allF (toL s) 0).1 = R at *
  simp only [List.length_map]
  have hRl := HLN.out
  have HRA := Lib.hid hra; have HW1 := Lib.hid hb1
  clear hra hrb hb1
  generalize chkF (toL s) = ck at *
  obtain ⟨at_, er⟩ := ck
  simp only at HB0 ⊢
  go_wp2_with fail
  go_loop [7] (fun v7 => ∃ k : Nat, k ≤ R.length ∧ v7 = .int .i64 (k : Int) ∧ R.any (fun x => ctlU x.2) = (R.drop k).any (fun x => ctlU x.2)) (fun v7 => R.length - (intOf v7).toNat)
  case atStart => exact ⟨0, by omega, rfl, rfl⟩
  case round =>
    obtain ⟨k, hk, rfl, hf⟩ := hrel
    have HF := Lib.hid hf; clear hf
    have k0 : (0 : Int) ≤ (k : Int) := by omega
    by_cases hlt : k < R.length
    · have k1 : (k : Int) < (R.length : Int) := by omega
      obtain ⟨ba, oa, rfl, hca⟩ := HRA.out.cell (k := k) (by rw [ints_len, List.length_map]; exact hlt)
      simp only [ints, List.getElem_map] at hca
      have HS := Lib.hid (any_step R k hlt)
      generalize R[k] = x at *
      obtain ⟨o, r⟩ := x
      simp only at hca HS
      have HCT := Lib.hid (fun wx => r3_control (r : Int) wx)
      rw [ctlI_nat] at HCT
      rcases hc : ctlU r with _ | _
      · rw [hc] at HCT HS
        have HN := Lib.hid (show R.any (fun x => ctlU x.2) = (R.drop (k + 1)).any (fun x => ctlU x.2) from by rw [HF.out, HS.out]; rfl)
        clear hc
        go_wp2_with ((go_at_call 80; (with_reducible refine (HCT.out _).mono ?_); rintro e w' ⟨rfl, rfl⟩))
        go_round
        case rel => exact ⟨k + 1, by omega, by go_num, HN.out⟩
        case measure => simp [intOf] <;> omega
      · rw [hc] at HCT HS
        have HR := Lib.hid (show ctlB (toL s) = true from by rw [HB0.out, HF.out, HS.out]; rfl)
        clear hc
        go_wp2_with ((go_at_call 80; (with_reducible refine (HCT.out _).mono ?_); rintro e w' ⟨rfl, rfl⟩))
        go_ret
        exact ⟨ret_bool (by rw [HR.out]), HW1.out⟩
    · obtain rfl : k = R.length := by omega
      have k1 : (R.length : Int) ≤ (R.length : Int) := by omega
      have HR := Lib.hid (show ctlB (toL s) = decide (er ≠ 0) from by rw [HB0.out, HF.out, List.drop_length]; simp)
      by_cases he : er = 0
      · have e1 : (er != 0) = false := by subst he; rfl
        have HQ := Lib.hid (show decide (er ≠ 0) = false from by simp [he])
        clear he
        go_wp2_with fail
        go_ret
        exact ⟨ret_bool (by rw [HR.out, HQ.out]), HW1.out⟩
      · have e1 : (er != 0) = true := by simp [bne, he]
        have HQ := Lib.hid (show decide (er ≠ 0) = true from by simp [he])
        clear he
        go_wp2_with fail
        go_ret
        exact ⟨ret_bool (by rw [HR.out, HQ.out]), HW1.out⟩

set_option maxHeartbeats 2000000 in
set_option maxRecDepth 100000 in
theorem gw_checkText (s : ByteArray) (w : World) (hs : s.size ≤ 900000) : Calls Tryz.prog 41 #[.string s] w fun e w' => e = .returned (.int .i64 (textE (toL s))) ∧ Below w.heap.size w w' := by
  have HL := toL_length s
  have HV := Lib.hid (show textE (toL s) = if s.size = 0 then 4 else if 400 < s.size then 5 else if ctlB (toL s) then 6 else 0 from by unfold textE; rw [HL])
  clear HL
  by_cases h0 : s.size = 0
  · have h1 : s.toList = [] := toList_nil h0
    have H := Lib.hid (show textE (toL s) = 4 from by rw [HV.out, if_pos h0])
    clear h0
    go_enter Tryz.func41, Tryz.ntmps41
    go_wp2_with fail
    go_ret
    exact ⟨ret_int H.out.symm, Below.refl _ _⟩
  · have h1 : s.toList.isEmpty = false := toList_cons h0
    by_cases h2 : 400 < s.size
    · have h2' : (400 : Int) < (s.size : Int) := by omega
      have H := Lib.hid (show textE (toL s) = 5 from by rw [HV.out, if_neg h0, if_pos h2])
      clear h0 h2
      go_enter Tryz.func41, Tryz.ntmps41
      go_wp2_with fail
      go_ret
      exact ⟨ret_int H.out.symm, Below.refl _ _⟩
    · have h2' : (s.size : Int) ≤ 400 := by omega
      have HP := Lib.hid (u8_printable s w hs)
      rw [if_neg h0, if_neg h2] at HV
      clear h0 h2
      rcases hc : ctlB (toL s) with _ | _
      all_goals
        rw [hc] at HP HV
        clear hc
        go_enter Tryz.func41, Tryz.ntmps41
        go_wp2_with ((go_at_call 85; (with_reducible refine HP.out.mono ?_); rintro e w1 ⟨rfl, hb1⟩))
        go_ret
        exact ⟨ret_int (by rw [HV.out]; rfl), hb1⟩
set_option maxHeartbeats 2000000 in
set_option maxRecDepth 100000 in
theorem lw_text (s : ByteArray) (w : World) (hs : s.size ≤ 900000) : Calls Tryz.prog 135 #[.string s] w fun e w' => e = .returned (.int .i64 (textE (toL s))) ∧ Below w.heap.size w w' := by
  have HL := toL_length s
  have HV := Lib.hid (show textE (toL s) = if s.size = 0 then 4 else if 400 < s.size then 5 else if ctlB (toL s) then 6 else 0 from by unfold textE; rw [HL])
  clear HL
  by_cases h0 : s.size = 0
  · have h1 : s.toList = [] := toList_nil h0
    have H := Lib.hid (show textE (toL s) = 4 from by rw [HV.out, if_pos h0])
    clear h0
    go_enter Tryz.func135, Tryz.ntmps135
    go_wp2_with fail
    go_ret
    exact ⟨ret_int H.out.symm, Below.refl _ _⟩
  · have h1 : s.toList.isEmpty = false := toList_cons h0
    by_cases h2 : 400 < s.size
    · have h2' : (400 : Int) < (s.size : Int) := by omega
      have H := Lib.hid (show textE (toL s) = 5 from by rw [HV.out, if_neg h0, if_pos h2])
      clear h0 h2
      go_enter Tryz.func135, Tryz.ntmps135
      go_wp2_with fail
      go_ret
      exact ⟨ret_int H.out.symm, Below.refl _ _⟩
    · have h2' : (s.size : Int) ≤ 400 := by omega
      have HP := Lib.hid (lw_control s w (by omega))
      rw [if_neg h0, if_neg h2] at HV
      clear h0 h2
      rcases hc : ctlB (toL s) with _ | _
      all_goals
        rw [hc] at HP HV
        clear hc
        go_enter Tryz.func135, Tryz.ntmps135
        go_wp2_with ((go_at_call 150; (with_reducible refine HP.out.mono ?_); rintro e w1 ⟨rfl, hb1⟩))
        go_ret
        exact ⟨ret_int (by rw [HV.out]; rfl), hb1⟩
end Go.Proofs.YtghjgbkhhoaebaaGreatDoor

namespace Go.Proofs.YtghjgbkhhoaebaaGreatDoor
set_option linter.unusedSimpArgs false
set_option linter.unusedVariables false
open Go.RowKit

set_option maxHeartbeats 2000000 in
set_option maxRecDepth 100000 in
theorem gw_check (m : Int) (n t : ByteArray) (w : World) (hn : n.size ≤ maxLen) (ht : t.size ≤ 900000) : Calls Tryz.prog 16 #[.agg #[.int .i64 m, .string n, .string t]] w fun e w' => e = .returned (.int .i64 (lineE m (toL n) (toL t))) ∧ Below w.heap.size w w' := by
  have HB0 := Lib.hid (show Below w.heap.size w (w.alloc (.cells #[.int .i64 m, .string n, .string t] 39)) from (Below.refl _ _).alloc (Nat.le_refl _) _)
  have HV := Lib.hid (show lineE m (toL n) (toL t) = if minB m = false then 2 else if nickB (toL n) = false then 12 else textE (toL t) from rfl)
  have HM := Lib.hid (fun wx => gw_isMinute m wx)
  have HN := Lib.hid (fun wx => gw_isNick n wx hn)
  have HT := Lib.hid (gw_checkText t (w.alloc (.cells #[.int .i64 m, .string n, .string t] 39)) ht)
  rcases h1 : minB m with _ | _
  · rw [h1] at HM HV
    clear h1
    go_enter Tryz.func16, Tryz.ntmps16
    go_wp2_with ((go_at_call 34; (with_reducible refine (HM.out _).mono ?_); rintro e w' ⟨rfl, rfl⟩))
    go_ret
    exact ⟨ret_int (by rw [HV.out]; rfl), HB0.out⟩
  · rw [h1] at HM HV
    clear h1
    rcases h2 : nickB (toL n) with _ | _
    · rw [h2] at HN HV
      clear h2
      go_enter Tryz.func16, Tryz.ntmps16
      go_wp2_with (first | (go_at_call 34; (with_reducible refine (HM.out _).mono ?_); rintro e w' ⟨rfl, rfl⟩) | (go_at_call 30; (with_reducible refine (HN.out _).mono ?_); rintro e w' ⟨rfl, rfl⟩))
      go_ret
      exact ⟨ret_int (by rw [HV.out]; rfl), HB0.out⟩
    · rw [h2] at HN HV
      clear h2
      go_enter Tryz.func16, Tryz.ntmps16
      go_wp2_with (first | (go_at_call 34; (with_reducible refine (HM.out _).mono ?_); rintro e w' ⟨rfl, rfl⟩) | (go_at_call 30; (with_reducible refine (HN.out _).mono ?_); rintro e w' ⟨rfl, rfl⟩) | (go_at_call 41; (with_reducible refine HT.out.mono ?_); rintro e w1 ⟨rfl, hb1⟩))
      go_ret
      exact ⟨ret_int (by rw [HV.out]; rfl), HB0.out.trans (hb1.mono HB0.out.size)⟩
set_option maxHeartbeats 2000000 in
set_option maxRecDepth 100000 in
theorem lw_check (m : Int) (n t : ByteArray) (w : World) (hn : n.size ≤ maxLen) (ht : t.size ≤ 900000) : Calls Tryz.prog 117 #[.agg #[.int .i64 m, .string n, .string t]] w fun e w' => e = .returned (.int .i64 (lineE m (toL n) (toL t))) ∧ Below w.heap.size w w' := by
  have HB0 := Lib.hid (show Below w.heap.size w (w.alloc (.cells #[.int .i64 m, .string n, .string t] 39)) from (Below.refl _ _).alloc (Nat.le_refl _) _)
  have HV := Lib.hid (show lineE m (toL n) (toL t) = if minB m = false then 2 else if nickB (toL n) = false then 12 else textE (toL t) from rfl)
  have HM := Lib.hid (fun wx => lw_minute m wx)
  have HN := Lib.hid (fun wx => lw_nick n wx hn)
  have HT := Lib.hid (lw_text t (w.alloc (.cells #[.int .i64 m, .string n, .string t] 39)) ht)
  rcases h1 : minB m with _ | _
  · rw [h1] at HM HV
    clear h1
    go_enter Tryz.func117, Tryz.ntmps117
    go_wp2_with ((go_at_call 13; (with_reducible refine (HM.out _).mono ?_); rintro e w' ⟨rfl, rfl⟩))
    go_ret
    exact ⟨ret_int (by rw [HV.out]; rfl), HB0.out⟩
  · rw [h1] at HM HV
    clear h1
    rcases h2 : nickB (toL n) with _ | _
    · rw [h2] at HN HV
      clear h2
      go_enter Tryz.func117, Tryz.ntmps117
      go_wp2_with (first | (go_at_call 13; (with_reducible refine (HM.out _).mono ?_); rintro e w' ⟨rfl, rfl⟩) | (go_at_call 134; (with_reducible refine (HN.out _).mono ?_); rintro e w' ⟨rfl, rfl⟩))
      go_ret
      exact ⟨ret_int (by rw [HV.out]; rfl), HB0.out⟩
    · rw [h2] at HN HV
      clear h2
      go_enter Tryz.func117, Tryz.ntmps117
      go_wp2_with (first | (go_at_call 13; (with_reducible refine (HM.out _).mono ?_); rintro e w' ⟨rfl, rfl⟩) | (go_at_call 134; (with_reducible refine (HN.out _).mono ?_); rintro e w' ⟨rfl, rfl⟩) | (go_at_call 135; (with_reducible refine HT.out.mono ?_); rintro e w1 ⟨rfl, hb1⟩))
      go_ret
      exact ⟨ret_int (by rw [HV.out]; rfl), HB0.out.trans (hb1.mono HB0.out.size)⟩
end Go.Proofs.YtghjgbkhhoaebaaGreatDoor

namespace Go.Proofs.YtghjgbkhhoaebaaGreatDoor
set_option linter.unusedSimpArgs false
set_option linter.unusedVariables false
open Go.RowKit
open Go.Lib (decDigits)

theorem conv_cell (T : TypeId) (hT : Tryz.prog.underlying T = some .string) (wx : World) (b k : Nat) (d : UInt8) (e : d.toNat = 48 + k) (hc : wx.cell? ⟨b, 0, none⟩ = some (.int .u8 (48 + (k : Int)))) : (convert 89 T (.slice (some ⟨b, 0, none⟩) 1 1)).run Tryz.prog wx = .ok (.string ⟨#[d]⟩) wx :=
  run_convert_bytes_back (P := Tryz.prog) _ 89 T 5 ⟨b, 0, none⟩ 1 [d] Tryz.underlying89 Tryz.underlying5 hT (fun j hj => by
    obtain rfl : j = 0 := by simpa using hj
    have : (48 + (k : Int)) = num d := by simp only [num]; rw [e]; simp
    rw [this] at hc
    simpa [Addr.add] using hc)
theorem conv_new (T : TypeId) (hT : Tryz.prog.underlying T = some .string) (wx : World) (k : Nat) (d : UInt8) (e : d.toNat = 48 + k) : (convert 89 T (.slice (some ⟨wx.heap.size, 0, none⟩) 1 1)).run Tryz.prog (wx.alloc (.cells #[.int .u8 (48 + (k : Int))] 5)) = .ok (.string ⟨#[d]⟩) (wx.alloc (.cells #[.int .u8 (48 + (k : Int))] 5)) :=
  conv_cell T hT _ _ k d e (by rw [Lib.cell_of_heap (heap_alloc_new wx _)]; rfl)
set_option maxHeartbeats 2000000 in
set_option maxRecDepth 100000 in
theorem ref_plain (n : Nat) : n < 18446744073709551616 → ∀ w : World, Calls Tryz.prog 84 #[.int .u64 (n : Int)] w fun e w' => e = .returned (.string (ofL (decDigits n))) ∧ Below w.heap.size w w' := by
  induction n using Nat.strongRecOn with
  | _ n ih =>
    intro hn w
    by_cases h : n < 10
    · obtain ⟨d, hd, e⟩ := dig_of n h
      have H := Lib.hid (show (⟨#[d]⟩ : ByteArray) = ofL (decDigits n) from by rw [decDigits, dif_pos h, hd]; rfl)
      have i0 : (0 : Int) ≤ (n : Int) := by omega
      have i1 : (n : Int) < 10 := by omega
      have x1 : IntKind.u64.wrap (48 + (n : Int)) = 48 + (n : Int) := IntWalk.u64_in _ (by omega)
      have x2 : IntKind.u8.wrap (48 + (n : Int)) = 48 + (n : Int) := IntWalk.u8_in _ (by omega)
      have hcv := conv_new 9 Tryz.underlying9 w n d e
      clear hd
      go_enter Tryz.func84, Tryz.ntmps84
      go_wp2_with fail
      go_ret
      exact ⟨by rw [H.out]; rfl, (Below.refl _ _).alloc (Nat.le_refl _) _⟩
    · obtain ⟨d, hd, e⟩ := dig_of (n % 10) (by omega)
      have H := Lib.hid (show ofL (decDigits (n / 10)) ++ (⟨#[d]⟩ : ByteArray) = ofL (decDigits n) from by
        conv => rhs; rw [decDigits, dif_neg h, hd]
        rw [← ofL_append]; rfl)
      have hsz : (ofL (decDigits (n / 10))).size ≤ 20 := by rw [ofL_size]; exact dec_len_lt 19 _ (by omega)
      have HIH := Lib.hid (ih (n / 10) (by omega) (by omega))
      have i1 : (10 : Int) ≤ (n : Int) := by omega
      have i0 : (0 : Int) ≤ (n : Int) := by omega
      have q1 : (n : Int).tdiv 10 = ((n / 10 : Nat) : Int) := by rw [Int.tdiv_eq_ediv_of_nonneg i0]; omega
      have q2 : (n : Int).tmod 10 = ((n % 10 : Nat) : Int) := by rw [Int.tmod_eq_emod_of_nonneg i0]; omega
      have hlt10 : n % 10 < 10 := by omega
      generalize hm : n % 10 = m at *
      generalize ofL (decDigits (n / 10)) = R at *
      generalize hq : n / 10 = q at *
      have x1 : IntKind.u64.wrap (48 + (m : Int)) = 48 + (m : Int) := IntWalk.u64_in _ (by omega)
      have x2 : IntKind.u8.wrap (48 + (m : Int)) = 48 + (m : Int) := IntWalk.u8_in _ (by omega)
      have hcB : (convert 89 9 (.slice (some ⟨w.heap.size, 0, none⟩) 1 1)).run Tryz.prog (w.alloc (.cells #[.int .u8 (48 + (m : Int))] 5)).drew = .ok (.string ⟨#[d]⟩) (w.alloc (.cells #[.int .u8 (48 + (m : Int))] 5)).drew := conv_cell 9 Tryz.underlying9 _ _ m d e (show (w.alloc (.cells #[.int .u8 (48 + (m : Int))] 5)).cell? _ = _ by rw [Lib.cell_of_heap (heap_alloc_new w _)]; rfl)
      have x3 : IntKind.u64.wrap (q : Int) = (q : Int) := IntWalk.u64_in _ (by omega)
      have x4 : IntKind.u64.wrap (m : Int) = (m : Int) := IntWalk.u64_in _ (by omega)
      clear hd hm hq ih h
      go_enter Tryz.func84, Tryz.ntmps84
      go_wp2_with fail
      go_region_with ((go_at_call 84; (with_reducible refine (HIH.out _).mono ?_); rintro e w2 ⟨rfl, hb2⟩; (try have hcC := conv_cell 9 Tryz.underlying9 w2 w.heap.size m d e ((hb2.cell (p := ⟨w.heap.size, 0, none⟩) (by simp; done)).trans (show (w.alloc (.cells #[.int .u8 (48 + (m : Int))] 5)).cell? _ = _ by rw [Lib.cell_of_heap (heap_alloc_new w _)]; rfl))); have hcA := conv_new 9 Tryz.underlying9 w2 m d e))
      all_goals
        go_wp2_with fail
        go_ret
        refine ⟨by rw [H.out]; rfl, ?_⟩
        first
          | exact (below_undrew hb2).alloc hb2.size _
          | exact (((Below.refl _ _).alloc (Nat.le_refl _) _).drew).trans (hb2.mono (by simp))
          | exact ((((Below.refl _ _).alloc (Nat.le_refl _) _).drew).trans (hb2.mono (by simp))).drew
theorem ref_digits (n : Nat) (hn : n < 9223372036854775808) (w : World) : Calls Tryz.prog 40 #[.int .i64 (n : Int)] w fun e w' => e = .returned (.string (ofL (decDigits n))) ∧ Below w.heap.size w w' := by
  have i0 : (0 : Int) ≤ (n : Int) := by omega
  have x1 : IntKind.u64.wrap (n : Int) = (n : Int) := IntWalk.u64_in _ (by omega)
  go_enter Tryz.func40, Tryz.ntmps40
  go_wp2_with fail
  (with_reducible refine (ref_plain n (by omega) _).mono ?_)
  rintro e w1 ⟨rfl, hb1⟩
  go_wp2_with fail
  go_ret
  exact ⟨rfl, hb1⟩
end Go.Proofs.YtghjgbkhhoaebaaGreatDoor
