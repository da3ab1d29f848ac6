/- The walk over GatewayLoops. -/
import Derived.Test.YtghjgbkhhoaebaaGreatDoorLopA
import Derived.Test.YtghjgbkhhoaebaaGreatDoorPo38
import Derived.Test.YtghjgbkhhoaebaaGreatDoorPo44
import Derived.Deep.DeepCutAuto
namespace Go.Proofs.YtghjgbkhhoaebaaGreatDoor
set_option linter.unusedSimpArgs false
set_option linter.unusedVariables false
open Go.ChangeShapes Go.WideShapes Go.ChangeAt Go.RowKit
open Go.ChangeMaps (open_string shut_string)

attribute [local go_sem ↓] wp_load_id wp_load_post
set_option maxHeartbeats 16000000 in
set_option maxRecDepth 100000 in
theorem GatewayLoops_walk {w : World} (A : Option Addr) (l : List OpR) (cp : Nat) (hr : Row w A (l.flatMap opC)) (hl : l.length ≤ maxLen) (hok : ∀ o ∈ l, OpOk o) (f : Nat → Int) (Nm S B : ByteArray) (d : Int) (hNm : Nm.size ≤ maxLen) (hS : S.size ≤ maxLen) (hB : B.size ≤ maxLen) (f2 : Nat → Int) (hba : Base w.heap.size w) :
    Calls Tryz.prog 5 #[.slice A l.length cp, postV f Nm S B d, idA f2] w fun e w' => e = .returned (.bool true) ∧ Below w.heap.size w w' := by
  have HR := Lib.hid hr
  have HOK := Lib.hid hok
  have HBA := Lib.hid hba
  have HS1 := Lib.hid (fun wx => lw_short Nm hNm 300 300 rfl wx (by omega))
  have HS2 := Lib.hid (fun wx => lw_short S hS 300 300 rfl wx (by omega))
  have HS3 := Lib.hid (fun wx => lw_short B hB 1000 1000 rfl wx (by omega))
  have hx1 := short_size Nm 300
  have hx2 := short_size S 300
  have hx3 := short_size B 1000
  clear hr hok hba hNm hS hB
  generalize Nm.extract 0 (min Nm.size 300) = X1 at *
  generalize S.extract 0 (min S.size 300) = X2 at *
  generalize B.extract 0 (min B.size 1000) = X3 at *
  have HB0 := Lib.hid ((alloc_bel w (.cells (postC f Nm S B d) 25)).alloc (by simp) (.cells (idK f2) 23))
  have HP0 := Lib.hid (show ((w.alloc (.cells (postC f Nm S B d) 25)).alloc (.cells (idK f2) 23)).heap[w.heap.size]? = some (.cells (postC f Nm S B d) 25 (0, 0)) from (Lib.alloc_old _ _ _ (by simp)).trans (heap_alloc_new _ _))
  have HI0 := Lib.hid (show ((w.alloc (.cells (postC f Nm S B d) 25)).alloc (.cells (idK f2) 23)).heap[w.heap.size + 1]? = some (.cells (idK f2) 23 (0, 0)) from alloc_at _ _ _ (by simp))
  go_enter Tryz.func5, Tryz.ntmps5
  go_upto_region 1 with fail
  generalize (w.alloc (.cells (postC f Nm S B d) 25)).alloc (.cells (idK f2) 23) = W0 at *
  have HKN := Lib.hid (gw_known W0 (HBA.out.step HB0.out).shaped (HBA.out.step HB0.out).tabN)
  go_upto_region 4 with (first
    | (go_at_call 11; (with_reducible refine HKN.out.mono ?_); rintro e w1 ⟨rfl, hb1⟩; have HB1 := Lib.hid (HB0.out.trans (hb1.mono HB0.out.size)); have HP1 := Lib.hid ((hb1.block _ (heap_lt HP0.out)).trans HP0.out); have HI1 := Lib.hid ((hb1.block _ (heap_lt HI0.out)).trans HI0.out); have HPL := Lib.hid (show Calls Tryz.prog 17 #[.slice A l.length cp, .int .i64 10] w1 _ from lw_play A l cp 10 (by omega) w1 (HR.out.below HB1.out) hl HOK.out ((HBA.out.step HB1.out).mono HB1.out.size)); clear hb1)
    | (go_at_call 17; (with_reducible refine HPL.out.mono ?_); rintro e w2 ⟨b, m, rfl, hb2, ls, last, made, read, ⟨A1, A1', ⟨v1, m1, m2, hgs⟩, ⟨v3, vm, vr, hms⟩, hd1⟩, hi2⟩; have HGS := Lib.hid hgs; have HMS := Lib.hid hms; have HD := Lib.hid hd1; have HI := Lib.hid hi2; have HB12 := Lib.hid hb2; have HP2 := Lib.hid ((hb2.block _ (heap_lt HP1.out)).trans HP1.out); have HI2 := Lib.hid ((hb2.block _ (heap_lt HI1.out)).trans HI1.out); have HB2 := Lib.hid (HB1.out.trans (hb2.mono HB1.out.size)); have hpn := heap_lt HP1.out; have hin := heap_lt HI1.out; clear hgs hms hd1 hi2 hb2))
  have hnl : ls.length ≤ 600 := HI.out.nl
  have hnm : made.length ≤ 10 := HI.out.nm
  have hnr : read.length ≤ 10 := HI.out.nr
  have hlo := HI.out.lo
  have hhi := HI.out.hi
  have HZN := Lib.hid HB1.out.size
  clear HP0 HI0 HB0 HP1 HI1 HKN HPL
  obtain ⟨px, hpx⟩ : ∃ px, w.heap.size = px := ⟨_, rfl⟩
  have HPX := Lib.hid hpx
  rw [hpx] at HP2 HI2 hpn hin
  simp only [hpx]
  clear hpx
  obtain ⟨t1, t2, t3, t4⟩ := post_text HP2.out
  have hf1 := Lib.frozen_of_heap HP2.out 32
  have hf2 := Lib.frozen_of_heap HP2.out 33
  have hf3 := Lib.frozen_of_heap HP2.out 34
  have hz0 := heap_lt HP2.out
  go_cut [4] (fun s4 wx => s4 = .pointer (some ⟨px, 0, none⟩) ∧ wx = (((w2.setCell ⟨px, 32, none⟩ (.string X1)).setCell ⟨px, 33, none⟩ (.string X2)).setCell ⟨px, 34, none⟩ (.string X3)).drew)
  case first =>
    as_aux_lemma =>
      go_region_with (first
        | (go_at_call 9; (with_reducible refine (HS1.out _).mono ?_); rintro e w' ⟨rfl, rfl⟩)
        | (go_at_call 9; (with_reducible refine (HS2.out _).mono ?_); rintro e w' ⟨rfl, rfl⟩)
        | (go_at_call 9; (with_reducible refine (HS3.out _).mono ?_); rintro e w' ⟨rfl, rfl⟩))
      all_goals
        as_aux_lemma =>
          go_wp2_with fail
          go_meet
          case rel => exact ⟨rfl, rfl⟩
  case rest =>
    as_aux_lemma =>
      obtain ⟨rfl, hwc⟩ := hcut
      have HXc := Lib.hid (show wc.heap[px]? = some (.cells (postC f X1 X2 X3 d) 25 (0, 0)) from by
        rw [hwc]
        exact heap_set (heap_set (heap_set HP2.out _) _) _)
      have HKc := Lib.hid (show ∀ k, k ≠ px → wc.heap[k]? = w2.heap[k]? from fun k hk => by
        rw [hwc]
        exact (heap_set_ne _ hk).trans ((heap_set_ne _ hk).trans (heap_set_ne _ hk)))
      have HZc := Lib.hid (show wc.heap.size = w2.heap.size from by rw [hwc]; show (((w2.setCell _ _).setCell _ _).setCell _ _).heap.size = _; simp)
      have HBc := Lib.hid (show Below w.heap.size w wc from by
        rw [hwc]
        exact (((HB2.out.setCell (p := ⟨px, 32, none⟩) (Nat.le_of_eq HPX.out) _).setCell (p := ⟨px, 33, none⟩) (Nat.le_of_eq HPX.out) _).setCell (p := ⟨px, 34, none⟩) (Nat.le_of_eq HPX.out) _).drew)
      clear hwc t1 t2 t3 t4 hf1 hf2 hf3 hz0 HP2 HS1 HS2 HS3
      have HAL := Lib.hid (show (∀ k, A1 k → k ≠ px ∧ k ≠ px + 1) ∧ ∀ k, A1' k → k ≠ px ∧ k ≠ px + 1 from by
        refine ⟨fun k hk => ?_, fun k hk => ?_⟩
        · have := HGS.out.lo k hk
          constructor <;> omega
        · have := HMS.out.lo k hk
          constructor <;> omega)
      have k4 : wc.cell? ⟨m, 4, none⟩ = some (.int .i64 last) := (World.cell?_of_block (HKc.out m (HAL.out.2 m HMS.out.inb).1)).trans (md_cells HMS.out).2.2.2.1
      obtain ⟨_, _, _, t4⟩ := post_text HXc.out
      have hf4 := Lib.frozen_of_heap HXc.out 35
      go_upto_region 6 with fail
      have HX4 := Lib.hid (show (wc.setCell ⟨px, 35, none⟩ (.int .i64 last)).heap[px]? = some (.cells (postC f X1 X2 X3 last) 25 (0, 0)) from heap_set HXc.out _)
      have HK4 := Lib.hid (show ∀ k, k ≠ px → (wc.setCell ⟨px, 35, none⟩ (.int .i64 last)).heap[k]? = w2.heap[k]? from fun k hk => (heap_set_ne _ hk).trans (HKc.out k hk))
      have HZ4 := Lib.hid (show (wc.setCell ⟨px, 35, none⟩ (.int .i64 last)).heap.size = w2.heap.size from by rw [World.size_setCell]; exact HZc.out)
      have HB4 := Lib.hid (HBc.out.setCell (p := ⟨px, 35, none⟩) (Nat.le_of_eq HPX.out) (.int .i64 last))
      clear k4 t4 hf4 HXc HKc HZc HBc
      generalize wc.setCell ⟨px, 35, none⟩ (.int .i64 last) = W4 at *
      have HI4 := Lib.hid (show W4.heap[px + 1]? = some (.cells (idK f2) 23 (0, 0)) from (HK4.out (px + 1) (by omega)).trans HI2.out)
      have hzz := Nat.le_of_eq HZ4.out.symm
      have HG4 := Lib.hid (HGS.out.move (HK4.out b (HAL.out.1 b HGS.out.inb).1) (fun k e => HK4.out k (HAL.out.1 k (HGS.out.inv k e)).1) (HK4.out m1 (HAL.out.1 m1 HGS.out.in1).1) (HK4.out m2 (HAL.out.1 m2 HGS.out.in2).1) hzz)
      have HM4 := Lib.hid (HMS.out.move (fun k ha => HK4.out k (HAL.out.2 k ha).1) hzz)
      have hn4 : w1.heap.size ≤ W4.heap.size := Nat.le_trans HB12.out.size hzz
      have hba4 : Base w1.heap.size W4 := (HBA.out.step HB4.out).mono HZN.out
      have hpn4 : px < w1.heap.size ∧ px + 1 < w1.heap.size := ⟨hpn, hin⟩
      obtain ⟨o1, e1⟩ := post_of (load_post (W := W4) HX4.out)
      by_cases hrd : idN f ∈ read
      · have hE : rdE last (idN f) read = 7 := by unfold rdE; rw [if_neg (by rw [min_ok hlo hhi]; decide), if_pos hrd]
        have HRG := Lib.hid ((gw_read ⟨v1, m1, m2, HG4.out⟩ hn4 hba4 f X1 X2 X3 last (by omega) (by omega) (by omega)).mono (R' := fun e w5 => ∃ v, e = .returned (.tuple #[v, .int .i64 7]) ∧ Fr w1.heap.size A1 W4 w5) (fun e w5 h => by
          obtain ⟨⟨v, rfl, _⟩, _, hf⟩ := h
          exact ⟨v, by rw [hE], hf⟩))
        clear hE
        go_upto_region 8 with ((go_at_call 12; (with_reducible refine HRG.out.mono ?_); rintro e w5 ⟨v5, rfl, hf5⟩; have HF5 := Lib.hid hf5; clear hf5))
        have HM5 := Lib.hid (HM4.out.keep HF5.out (fun k ha h => HD.out k h ha))
        have HX5 := Lib.hid ((HF5.out.bel.block px hpn4.1).trans HX4.out)
        obtain ⟨A6, c6, hvr, hr6⟩ := own_row HM5.out.or_
        subst hvr
        have k6 := (md_cells HM5.out).2.2.2.2.2
        have hra : w5.rangeAt px 0 (idKL f) := range_id HX5.out
        have hty := Tryz.underlying23
        have hsz := size_Id
        have HK := Lib.hid (show PoP w5 m 6 px (.slice A6 read.length c6) f w5.drew from PoP.of k6 hra ((Below.refl _ _).drew))
        have HH := Lib.hid (fun wx (hx : PoP w5 m 6 px (.slice A6 read.length c6) f wx) => show Calls Tryz.prog 18 #[.slice A6 read.length c6, idA f] wx fun e w' => e = .returned (.bool true) ∧ Below wx.heap.size wx w' from by
          have h := lw_has A6 read c6 f wx (hr6.below hx.2.2) HM5.out.ar (by omega)
          rwa [decide_eq_true hrd] at h)
        clear hrd hr6
        go_region_held3 (fun w' => w'.cell? ⟨m, 6, none⟩ = some (.slice A6 read.length c6) ∧ w'.rangeAt px 0 (idKL f) ∧ Below w5.heap.size w5 w')
          (first | exact HK.out | exact PoP.later (by assumption) hb7)
          ((go_at_call 18; (with_reducible refine (HH.out _ ?hh).mono ?_); (case hh => assumption); rintro e w7 ⟨rfl, hb7⟩))
        rename_i hS7
        go_wp2_with fail
        go_ret
        exact ⟨rfl, HB4.out.trans ((HF5.out.bel.trans (hS7.2.2.mono (Nat.le_trans hn4 HF5.out.size))).mono HZN.out)⟩
      · have hE : rdE last (idN f) read = 0 := by unfold rdE; rw [if_neg (by rw [min_ok hlo hhi]; decide), if_neg hrd]
        obtain ⟨L, hL⟩ : ∃ L, rdL last (toL kN) (idN f) made read (toL X1) (toL X2) (toL X3) = L := ⟨_, rfl⟩
        have HSO := Lib.hid (show ∀ x ∈ L, (x.min : Int) = last ∧ x.nick = toL kN ∧ hearE last (toL kN) x.text last = 0 ∧ x.text.length ≤ 400 from hL ▸ said_ok hlo hhi (by rw [toL_length]; omega))
        have hL50 : L.length ≤ 50 := by rw [← hL]; exact rdL_len _ _ _ _ _ _ _ _
        have hR1 := rdR_le last (idN f) read
        have HRG := Lib.hid ((gw_read ⟨v1, m1, m2, HG4.out⟩ hn4 hba4 f X1 X2 X3 last (by omega) (by omega) (by omega)).mono (R' := fun e w5 => ∃ A5 c5, e = .returned (.tuple #[.slice A5 L.length c5, .int .i64 0]) ∧ w5.ownsRow W4.heap.size 39 3 (.slice A5 L.length c5) L.length (lnsV L) ∧ GwX w1.heap.size A1 w5 b kR kG kN ls last made (rdR last (idN f) read) ∧ Fr w1.heap.size A1 W4 w5) (fun e w5 h => by
          obtain ⟨⟨v, rfl, ho⟩, hg, hf⟩ := h
          rw [hL] at ho
          obtain ⟨A5, c5, rfl, _⟩ := own_row ho
          exact ⟨A5, c5, by rw [hE], ho, hg, hf⟩))
        generalize rdR last (idN f) read = R1 at *
        clear hE hL hrd
        go_upto_region 10 with (first
          | (go_at_call 12; (with_reducible refine HRG.out.mono ?_); rintro e w5 ⟨A5, c5, rfl, ho5, ⟨v5, m5, m6, hg5⟩, hf5⟩; have HO5 := Lib.hid ho5; have HG5 := Lib.hid hg5; have HF5 := Lib.hid hf5; have HW5 := Lib.hid (gw_waiting hg5.at_ (by omega)); clear ho5 hg5 hf5)
          | (go_at_call 19; (with_reducible refine HW5.out.mono ?_); rintro e w6 ⟨A6, c6, rfl, ho6, hb6⟩; have HO6 := Lib.hid ho6; have HB6 := Lib.hid hb6; clear ho6 hb6))
        have HG6 := Lib.hid (show GwX w1.heap.size A1 w6 b kR kG kN ls last made R1 from ⟨_, _, _, HG5.out.below HB6.out⟩)
        have HRL := Lib.hid (own_row_isS (own_below HO5.out HB6.out))
        have HRB := Lib.hid (own_row_isS HO6.out)
        have HBL := Lib.hid (show ∀ g o, A5 = some ⟨g, o, none⟩ → ¬ A1 g from fun g o e ha => by
          subst e
          exact Nat.lt_irrefl _ (Nat.lt_of_lt_of_le (HG4.out.hi g ha) (HO5.out.lt g rfl).1))
        have HBB := Lib.hid (show ∀ g o, A6 = some ⟨g, o, none⟩ → ¬ A1 g from fun g o e ha => by
          subst e
          exact Nat.lt_irrefl _ (Nat.lt_of_lt_of_le (HG4.out.hi g ha) (Nat.le_trans HF5.out.size (HO6.out.lt g rfl).1)))
        have HB46 := Lib.hid (show Below w1.heap.size W4 w6 from HF5.out.bel.trans (HB6.out.mono (Nat.le_trans hn4 HF5.out.size)))
        have hn6 := Nat.le_trans hn4 HB46.out.size
        have HLT := Lib.hid (fun g (ha : A1 g) => Nat.lt_of_lt_of_le (HG4.out.hi g ha) HB46.out.size)
        go_wp2_with fail
        go_loopw [13] (fun ix wr => ∃ (i : Nat) (Ai : Nat → Prop), i ≤ L.length ∧ ix = .int .i64 (i : Int) ∧ GwX w1.heap.size Ai wr b kR kG kN ls last made R1 ∧ (∀ k, Ai k → A1 k ∨ w6.heap.size ≤ k) ∧ (∀ k, k < w6.heap.size → ¬ A1 k → wr.heap[k]? = w6.heap[k]?) ∧ Below w1.heap.size w6 wr) (fun ix _ => L.length - (intOf ix).toNat)
        case atStart => exact ⟨0, A1, by omega, rfl, HG6.out, fun k h => .inl h, fun _ _ _ => rfl, Below.refl _ _⟩
        case round =>
          obtain ⟨i, Ai, hiL, rfl, hgi, hai, hki, hbi⟩ := hrel
          have HGI := Lib.hid hgi
          have HAI := Lib.hid hai
          have HKI := Lib.hid hki
          have HBI := Lib.hid hbi
          have hzi := hbi.size
          clear hgi hai hki hbi
          have i0 : (0 : Int) ≤ (i : Int) := by omega
          by_cases hlt : i < L.length
          · have i1 : (i : Int) < (L.length : Int) := by omega
            obtain ⟨bb, off, rfl, hbb, c0, c1, c2⟩ := lns_cells (HRL.out.move (fun g o e hg => HKI.out g hg (HBL.out g o e)) hzi) hlt
            have hs := HSO.out L[i] (List.getElem_mem hlt)
            generalize L[i] = x at *
            obtain ⟨xm, xn, xt⟩ := x
            simp only at c0 c1 c2 hs
            obtain ⟨s1, s2, s3, s4⟩ := hs
            rw [s1] at c0
            rw [s2] at c1
            have hHE := gw_hearX HGI.out (Nat.le_trans hn6 hzi) last (ofL (toL kN)) (ofL xt) (by decide) (by decide) (by rw [ofL_size]; omega) (by omega)
            rw [toL_ofL, toL_ofL, s3, (hear_own (ls := ls) (last := last) (t := xt)).1, (hear_own (ls := ls) (last := last) (t := xt)).2] at hHE
            have HHE := Lib.hid hHE
            clear hHE s1 s2 s3 s4
            go_wp2_with ((go_at_call 20; (with_reducible refine HHE.out.mono ?_); rintro e w7 ⟨rfl, hg7, hf7⟩; have HG7 := Lib.hid hg7; have HF7 := Lib.hid hf7; clear hg7 hf7))
            go_roundw
            case rel =>
              refine ⟨i + 1, Ext Ai wr w7, by omega, by go_num, HG7.out, fun k hk => ?_, fun k hk ha => ?_, HBI.out.trans HF7.out.bel⟩
              · rcases hk with hk | hk
                · exact HAI.out k hk
                · exact .inr (Nat.le_trans hzi hk.1)
              · exact (HF7.out.oth k (Nat.lt_of_lt_of_le hk hzi) (fun h => (HAI.out k h).elim ha (fun h => by omega))).trans (HKI.out k hk ha)
            case measure => simp [intOf] <;> omega
          · have i1 : (L.length : Int) ≤ (i : Int) := by omega
            have HB7 := Lib.hid (show Below w1.heap.size W4 wr from HB46.out.trans HBI.out)
            have hnr7 := Nat.le_trans hn6 hzi
            have HLO := Lib.hid HGI.out.lt.1
            have HRB7 := Lib.hid (HRB.out.move (fun g o e hg => HKI.out g hg (HBB.out g o e)) hzi)
            obtain ⟨v7, m7, m8, hg7⟩ := HGI.out
            have HG7 := Lib.hid hg7
            have HW7 := Lib.hid (gw_waiting hg7.at_ (by omega))
            clear hg7
            go_upto_region 17 with (first
              | (go_at_call 19; (with_reducible refine HW7.out.mono ?_); rintro e w8 ⟨A8, c8, rfl, ho8, hb8⟩; have HO8 := Lib.hid (own_row_isS ho8); have HB8 := Lib.hid hb8; clear ho8 hb8)
              | (go_at_call 14; (with_reducible refine (lw_same A8 A6 ls c8 c6 w8 HO8.out (HRB7.out.below HB8.out) (by omega)).mono ?_); rintro e w9 ⟨rfl, hb9⟩; have HB9 := Lib.hid (HB8.out.trans (hb9.mono HB8.out.size)); clear hb9))
            have HG9 := Lib.hid (show GwX w1.heap.size Ai w9 b kR kG kN ls last made R1 from ⟨_, _, _, HG7.out.below HB9.out⟩)
            have HBW := Lib.hid (show Below w1.heap.size W4 w9 from HB7.out.trans (HB9.out.mono hnr7))
            have hn9 := Nat.le_trans hnr7 HB9.out.size
            have HX9 := Lib.hid ((HBW.out.block px hpn4.1).trans HX4.out)
            have HI9 := Lib.hid ((HBW.out.block (px + 1) hpn4.2).trans HI4.out)
            have HPO := Lib.hid (gw_posted HG9.out hn9 f2)
            obtain ⟨o2, e2⟩ := row_of (w := w9) (v := .pointer (some ⟨px + 1, 0, none⟩)) (u := idA f2) (id_loads (p := idN f2) (idK_range HI9.out) rfl)
            go_upto_region 18 with ((go_at_call 21; (with_reducible refine HPO.out.mono ?_); rintro e w10 ⟨rfl, hg10, hf10⟩; have HG10 := Lib.hid hg10; have HF10 := Lib.hid hf10; clear hg10 hf10))
            have HX10 := Lib.hid ((HF10.out.bel.block px hpn4.1).trans HX9.out)
            have HI10 := Lib.hid ((HF10.out.bel.block (px + 1) hpn4.2).trans HI9.out)
            obtain ⟨o3, e3⟩ := row_of (w := w10) (v := .pointer (some ⟨px + 1, 0, none⟩)) (u := idA f2) (id_loads (p := idN f2) (idK_range HI10.out) rfl)
            go_upto_region 19 with ((refine wpList_store_mid rfl 23 _ _ rfl px 0 (idK f2) rfl rfl (post_there HX10.out) size_Id (all_oneCell_toArray (idK_one f2)) ?_; simp only [Act.put, List.setIfInBounds_toArray, List.set_cons_zero, List.set_cons_succ]))
            have HN11 := Lib.hid (post_of (post_newid (f2 := f2) HX10.out))
            have HZ11 := Lib.hid (setCells_sz px (idKL f2) 0 w10)
            have HK11 := Lib.hid (fun k (hk : k < w10.heap.size) (hne : k ≠ px) => World.heap_setCells_other w10 px 0 (idKL f2) hk hne)
            have HBw := Lib.hid (show Below w.heap.size w (w10.setCells px 0 (idKL f2)) from below_setCells (Nat.le_of_eq HPX.out) _ _ _ (HB4.out.trans ((HBW.out.trans HF10.out.bel).mono HZN.out)))
            clear o2 e2 o3 e3
            obtain ⟨o4, e4⟩ := HN11.out
            change OkPost (w10.setCells px 0 (idKL f2)) _ at o4
            generalize w10.setCells px 0 (idKL f2) = W11 at *
            obtain ⟨v10, m10, m11, hg10⟩ := HG10.out
            have hne : ∀ k, Ai k → k ≠ px := fun k hk e => by have := HLO.out k hk; have := hpn4.1; omega
            have hG11 := hg10.move (w' := W11) (HK11.out b (hg10.hi b hg10.inb) (hne b hg10.inb)) (fun k e => HK11.out k (hg10.hi k (hg10.inv k e)) (hne k (hg10.inv k e))) (HK11.out m10 (hg10.hi m10 hg10.in1) (hne m10 hg10.in1)) (HK11.out m11 (hg10.hi m11 hg10.in2) (hne m11 hg10.in2)) (Nat.le_of_eq HZ11.out.symm)
            have hn11 : w1.heap.size ≤ W11.heap.size := by rw [HZ11.out]; exact Nat.le_trans hn9 HF10.out.size
            have HRZ := Lib.hid ((gw_read ⟨v10, m10, m11, hG11⟩ hn11 ((HBA.out.step HBw.out).mono HZN.out) f2 X1 X2 X3 last (by omega) (by omega) (by omega)).mono (R' := fun e w5 => ∃ A5 c5 E5, e = .returned (.tuple #[.slice A5 0 c5, .int .i64 E5]) ∧ Fr w1.heap.size Ai W11 w5) (fun e w5 h => by
              obtain ⟨⟨v, rfl, ho⟩, hg, hf⟩ := h
              rw [rdL_made (poM_mem (idN f2) made)] at ho
              obtain ⟨A5, c5, rfl, _⟩ := own_row ho
              exact ⟨A5, c5, _, rfl, hf⟩))
            clear hG11 hg10
            go_wp2_with ((go_at_call 12; (with_reducible refine HRZ.out.mono ?_); rintro e w12 ⟨A9, c9, E9, rfl, hf12⟩; have HF12 := Lib.hid hf12; clear hf12))
            go_ret
            exact ⟨rfl, HBw.out.trans (HF12.out.bel.mono HZN.out)⟩
end Go.Proofs.YtghjgbkhhoaebaaGreatDoor
