/- The walk over the items of a class. -/
import Derived.Test.YtcknomaaikeebaaDoorWm2a
namespace Go.Proofs.YtcknomaaikeebaaDoor
set_option linter.unusedSimpArgs false
set_option linter.unusedVariables false
open Go.RowKit

set_option maxHeartbeats 4000000 in
set_option maxRecDepth 100000 in
theorem wm_items (s : ByteArray) (w : World) (hs : s.size ≤ 1000) :
    Calls Tryd.prog 25 #[.string s] w (ItemsPost (toL s) w) := by
  have HL := Lib.hid (toL_length s)
  have hcv := conv_one 9 Tryd.underlying9
  go_enter Tryd.func25, Tryd.ntmps25
  go_wp2_with fail
  go_loopw [2, 3] (fun v n wr => ∃ (k : Nat) (X : ByteArray), k ≤ s.size ∧ v = .string X ∧ n = .int .i64 k ∧ ItemsAt (toL s) (toL X) k (decide (k = 0)) ∧ X.size ≤ 256 * k ∧ Below w.heap.size w wr) (fun _ n _ => s.size - (intOf n).toNat)
  case atStart => exact ⟨0, ⟨#[]⟩, by omega, rfl, rfl, rfl, by decide, Below.refl _ _⟩
  case round =>
    obtain ⟨k, X, hk, rfl, rfl, hat, hX, hbel⟩ := hrel
    have HT := Lib.hid hat; clear hat
    by_cases hlt : k < s.size
    · have HC := Lib.hid (byte_at s k hlt)
      have HONE := Lib.hid (items_one HT.out _ HC.out)
      have HSTOP := Lib.hid (items_stop HT.out _ HC.out)
      have hk1 : (0 : Int) ≤ (k : Int) := by omega
      have hk2 : (k : Int) < (s.size : Int) := by omega
      rcases hal : isAl (s[k]'hlt) with _ | _
      · have hal2 : isLower (num (s[k]'hlt)) = false ∧ isDigit (num (s[k]'hlt)) = false := by simpa [isAl] using hal
        obtain ⟨h1, h2⟩ := hal2
        have HR := Lib.hid (isRange_no ((toL s).drop (k + 1)) _ hal)
        have HPL := Lib.hid (plainC_num (decide (k = 0)) (s[k]'hlt))
        rw [hal] at HPL
        clear hal
        obtain ⟨z, hz⟩ : ∃ z : Bool, z = decide (k = 0) := ⟨_, rfl⟩
        have hz' : ((k : Int) == 0) = z := by rw [hz, Bool.eq_iff_iff, beq_iff_eq, decide_eq_true_iff]; omega
        rw [← hz] at HPL HONE HSTOP
        clear hz
        rcases z with _ | _
        all_goals
          rcases e1 : (num (s[k]'hlt) == 43) with _ | _
          all_goals
            rcases e2 : (num (s[k]'hlt) == 95) with _ | _
            all_goals
              rcases e3 : (num (s[k]'hlt) == 46) with _ | _
              all_goals
                rcases e4 : (num (s[k]'hlt) == 45) with _ | _
                all_goals
                  rw [e1, e2, e3, e4] at HPL
                  go_wp2_with (first | (go_at_call 35; (with_reducible refine (asc_isLower _ _).mono ?_); rintro e w' ⟨rfl, rfl⟩) | (go_at_call 36; (with_reducible refine (asc_isDigit _ _).mono ?_); rintro e w' ⟨rfl, rfl⟩))
                  first
                    | (go_ret2; exact items_post (HSTOP.out HR.out HPL.out) hbel)
                    | (go_roundw
                       case rel => exact ⟨k + 1, _, by omega, rfl, by go_num, by rw [toL_app]; exact HONE.out HR.out HPL.out, by rw [app_size, one_size]; omega, hbel.trans (((Below.refl _ _).alloc (Nat.le_refl _) _).mono hbel.size)⟩
                       case measure => simp [intOf] <;> omega)
      · have HPL := Lib.hid (show plainC (decide (k = 0)) (s[k]'hlt) = true by simp [plainC, hal])
        have HAL := Lib.hid hal
        have hl3 : isLower (num (s[k]'hlt)) = true ∨ (isLower (num (s[k]'hlt)) = false ∧ isDigit (num (s[k]'hlt)) = true) := by
          rcases h : isLower (num (s[k]'hlt)) with _ | _
          · right; simpa [isAl, h] using hal
          · left; rfl
        clear hal
        by_cases hk3 : k + 2 < s.size
        · have hk4 : decide ((k : Int) + 2 < (s.size : Int)) = true := by simp; omega
          have hk5 : (0 : Int) ≤ (k : Int) + 1 := by omega
          have hk6 : (k : Int) + 1 < (s.size : Int) := by omega
          have hk7 : (0 : Int) ≤ (k : Int) + 2 := by omega
          have hk8 : (k : Int) + 2 < (s.size : Int) := by omega
          have hk9 : k + 1 < s.size := by omega
          have HRA := Lib.hid (isRange_at (toL s) k (s[k]'hlt) _ (byte_at s (k + 1) hk9))
          rw [HAL.out, HL.out, decide_eq_true hk3] at HRA
          have HRNG := Lib.hid (items_rng HT.out _ _ HC.out (byte_at s (k + 2) hk3))
          have HBAD := Lib.hid (items_bad HT.out _ _ HC.out (byte_at s (k + 2) hk3))
          rcases e45 : (num (s[k + 1]'hk9) == 45) with _ | _
          · rw [e45] at HRA
            rcases hl3 with h1 | ⟨h1, h2⟩
            all_goals
              go_wp2_with (first | (go_at_call 35; (with_reducible refine (asc_isLower _ _).mono ?_); rintro e w' ⟨rfl, rfl⟩) | (go_at_call 36; (with_reducible refine (asc_isDigit _ _).mono ?_); rintro e w' ⟨rfl, rfl⟩))
              go_roundw
              case rel => exact ⟨k + 1, _, by omega, rfl, by go_num, by rw [toL_app]; exact HONE.out HRA.out HPL.out, by rw [app_size, one_size]; omega, hbel.trans (((Below.refl _ _).alloc (Nat.le_refl _) _).mono hbel.size)⟩
              case measure => simp [intOf] <;> omega
          · rw [e45] at HRA
            have HRT := Lib.hid (show isRange (s[k]'hlt) ((toL s).drop (k + 1)) = true by rw [HRA.out]; rfl)
            clear HRA
            rcases hok : okRange (s[k]'hlt) (s[k + 2]'hk3) with _ | _
            · have HNO := Lib.hid (HBAD.out HRT.out hok)
              rcases Nat.lt_or_ge (s[k + 2]'hk3).toNat (s[k]'hlt).toNat with f1 | f1
              all_goals
                rcases f2 : isLower (num (s[k + 2]'hk3)) with _ | _
                all_goals
                  rcases f3 : isDigit (num (s[k + 2]'hk3)) with _ | _
                  all_goals
                    rcases f4 : isDigit (num (s[k]'hlt)) with _ | _
                    all_goals
                      rcases f5 : isLower (num (s[k]'hlt)) with _ | _
                      all_goals
                        first
                          | exact (bad_flags hok (by simp [num]; exact f1) (f2.trans f5.symm) (f3.trans f4.symm)).elim
                          | (exfalso; simp [f4, f5] at hl3; done)
                          | (clear hok hl3
                             go_wp2_with (first | (go_at_call 35; (with_reducible refine (asc_isLower _ _).mono ?_); rintro e w' ⟨rfl, rfl⟩) | (go_at_call 36; (with_reducible refine (asc_isDigit _ _).mono ?_); rintro e w' ⟨rfl, rfl⟩))
                             go_ret2
                             exact items_post HNO.out hbel)
            · have HYES := Lib.hid (HRNG.out HRT.out hok)
              obtain ⟨g1, g2, g3, g4, g5⟩ := okRange_parts HAL.out hok
              clear hok HBAD HRNG HONE HSTOP HPL
              obtain ⟨wo, rfl⟩ : ∃ wo : World, wo = wr := ⟨_, rfl⟩
              rcases hl3 with h1 | ⟨h1, h2⟩
              all_goals
                (try rw [h1] at g2)
                rcases f4 : isDigit (num (s[k]'hlt)) with _ | _
                all_goals
                  rw [f4] at g3
                  first
                    | (exfalso; simp [f4] at h2; done)
                    | ((try clear h2)
                       go_wp2_with (first | (go_at_call 35; (with_reducible refine (asc_isLower _ _).mono ?_); rintro e w' ⟨rfl, rfl⟩) | (go_at_call 36; (with_reducible refine (asc_isDigit _ _).mono ?_); rintro e w' ⟨rfl, rfl⟩))
                       go_loopw [2, 7] (fun v x wr => ∃ (y : UInt8) (Y : ByteArray), v = .string Y ∧ x = .int .u8 (num y) ∧ (s[k]'hlt).toNat ≤ y.toNat ∧ y.toNat ≤ (s[k + 2]'hk3).toNat + 1 ∧ toL Y = toL X ++ rangeTo (s[k]'hlt) y.toNat ∧ Y.size ≤ X.size + y.toNat ∧ Below w.heap.size w wr) (fun _ x _ => 256 - (intOf x).toNat)
                       case atStart => exact ⟨s[k]'hlt, X, rfl, rfl, Nat.le_refl _, by omega, by rw [rangeTo_zero]; simp, by omega, hbel⟩
                       case round =>
                         obtain ⟨y, Y, rfl, rfl, hy1, hy2, hY, hYs, hbel2⟩ := hrel
                         have HY := Lib.hid hY; clear hY
                         by_cases hyl : y.toNat ≤ (s[k + 2]'hk3).toNat
                         · have hy3 : decide (num y ≤ num (s[k + 2]'hk3)) = true := by simp [num]; omega
                           have HST := Lib.hid (rangeTo_step (s[k]'hlt) y hy1 (by omega))
                           have HNS := Lib.hid (num_succ y (by omega))
                           have hy4 : IntKind.u8.wrap (num y + 1) = num y + 1 := wrap_u8 _ (by simp only [num]; omega) (by simp only [num]; omega)
                           go_wp2_with fail
                           go_roundw
                           case rel => exact ⟨y + 1, _, rfl, by rw [HNS.out], by have := HNS.out; simp only [num] at this; omega, by have := HNS.out; simp only [num] at this; omega, by rw [toL_app, HY.out, HST.out]; simp [toL], by have := HNS.out; simp only [num] at this; rw [app_size, one_size]; omega, hbel2.trans (((Below.refl _ _).alloc (Nat.le_refl _) _).mono hbel2.size)⟩
                           case measure => simp [intOf, num] <;> omega
                         · have hy3 : decide (num y ≤ num (s[k + 2]'hk3)) = false := by simp [num]; omega
                           have HEQ := Lib.hid (show rangeTo (s[k]'hlt) y.toNat = rangeB (s[k]'hlt) (s[k + 2]'hk3) by rw [← rangeTo_all, show y.toNat = (s[k + 2]'hk3).toNat + 1 by omega])
                           go_wp2_with fail
                           go_roundw
                           case rel => exact ⟨k + 3, Y, by omega, rfl, by go_num, by rw [HY.out, HEQ.out]; exact HYES.out, by omega, hbel2⟩
                           case measure => simp [intOf] <;> omega)
        · have hk4 : decide ((k : Int) + 2 < (s.size : Int)) = false := by simp; omega
          have HRA := Lib.hid (isRange_end (toL s) k (s[k]'hlt) (by rw [HL.out]; exact hk3))
          rcases hl3 with h1 | ⟨h1, h2⟩
          all_goals
            go_wp2_with (first | (go_at_call 35; (with_reducible refine (asc_isLower _ _).mono ?_); rintro e w' ⟨rfl, rfl⟩) | (go_at_call 36; (with_reducible refine (asc_isDigit _ _).mono ?_); rintro e w' ⟨rfl, rfl⟩))
            go_roundw
            case rel => exact ⟨k + 1, _, by omega, rfl, by go_num, by rw [toL_app]; exact HONE.out HRA.out HPL.out, by rw [app_size, one_size]; omega, hbel.trans (((Below.refl _ _).alloc (Nat.le_refl _) _).mono hbel.size)⟩
            case measure => simp [intOf] <;> omega
    · have HE := Lib.hid (items_end HT.out (by rw [HL.out]; omega))
      go_wp2_with fail
      go_ret2
      exact items_post HE.out hbel
end Go.Proofs.YtcknomaaikeebaaDoor
