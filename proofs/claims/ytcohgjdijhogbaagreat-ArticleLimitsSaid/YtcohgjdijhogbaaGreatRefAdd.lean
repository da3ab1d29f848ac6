/- The walk over the reference's add. -/
import Derived.Test.YtcohgjdijhogbaaGreatConv
import Derived.Test.YtcohgjdijhogbaaGreatParseR
import Derived.Test.YtcohgjdijhogbaaGreatPt11
namespace Go.Proofs.YtcohgjdijhogbaaGreat
set_option linter.unusedSimpArgs false
set_option linter.unusedVariables false
open Go.RowKit

set_option maxHeartbeats 4000000 in
set_option maxRecDepth 100000 in
theorem ref_add (b s : ByteArray) (frm to : Nat) (w : World) (hs : s.size ≤ 1000000) (hft : frm ≤ to) (hto : to ≤ s.size) (hb : b.size ≤ 900000) :
    Calls Tryz.prog 36 #[.string b, .string s, .int .i64 frm, .int .i64 to] w fun e w' => e = .returned (.tuple #[.string (ofL (addGo (s.size + 1) (toL s) frm to (toL b)).1), .int .i64 (addGo (s.size + 1) (toL s) frm to (toL b)).2]) ∧ w = w' := by
  have HL := Lib.hid (toL_length s)
  go_enter Tryz.func36, Tryz.ntmps36
  go_wp2_with fail
  go_loopg [0, 10, 11] (to - frm) (fun g bv ix _ wr => w = wr ∧ ∃ (i n : Nat) (x : ByteArray), g = to - i ∧ i ≤ to ∧ to - i < n ∧ ix = .int .i64 i ∧ bv = .string x ∧ addGo (s.size + 1) (toL s) frm to (toL b) = addGo n (toL s) i to (toL x) ∧ x.size ≤ 900000 + 2 * i)
  case atStart => exact ⟨rfl, frm, s.size + 1, b, rfl, hft, by omega, rfl, rfl, rfl, by omega⟩
  case round =>
    obtain ⟨rfl, i, n, x, rfl, hi, hn, rfl, rfl, hq, hx⟩ := hrel
    have HQ := Lib.hid hq; clear hq
    by_cases hlt : i < to
    · have his : i < s.size := by omega
      rcases hbl : isBlank (num s[i]) with _ | _
      · have hbl' : isBlank (num ((toL s)[i]'(by rw [HL.out]; exact his))) = false := by rw [toL_getElem _ _ his]; exact hbl
        have HBL := Lib.hid hbl'
        clear hbl'
        go_wp2_with (go_at_call 34; refine (ref_blank _ _).mono ?_; rintro e w' ⟨rfl, rfl⟩)
        go_loop [11] (fun v => ∃ k : Nat, i ≤ k ∧ k ≤ to ∧ v = .int .i64 k ∧ skipTo (fun c => !isBlank c) (toL s) i to = skipTo (fun c => !isBlank c) (toL s) k to) (fun v => to - (intOf v).toNat)
        case atStart => exact ⟨i, Nat.le_refl _, hi, rfl, rfl⟩
        case round =>
          obtain ⟨k, hik, hk, rfl, hsk⟩ := hrel
          have HSK := Lib.hid hsk; clear hsk
          by_cases hkt : k < to
          · have hks : k < s.size := by omega
            have m1 : decide ((k : Int) < (to : Int)) = true := by simp; omega
            rcases hbk : isBlank (num s[k]) with _ | _
            · have HS2 := Lib.hid (HSK.out.trans (skipTo_step (fun c => !isBlank c) (toL s) k to hkt (by rw [HL.out]; exact hto) (by rw [toL_getElem _ _ hks]; simp [hbk])))
              go_wp2_with (go_at_call 34; refine (ref_blank _ _).mono ?_; rintro e w' ⟨rfl, rfl⟩)
              go_round
              case rel => exact ⟨k + 1, by omega, by omega, by go_num, HS2.out⟩
              case measure => simp [intOf] <;> omega
            · have HS2 := Lib.hid (HSK.out.trans (skipTo_stop (fun c => !isBlank c) (toL s) k to hkt (by rw [HL.out]; exact hto) (by rw [toL_getElem _ _ hks]; simp [hbk])))
              by_cases h9 : 900 < k - i
              · have h9' : decide ((900 : Int) < (k : Int) - (i : Int)) = true := by simp; omega
                have HQ3 := Lib.hid (HQ.out.trans (addGo_long n (toL s) i to k (toL x) (by omega) hlt (by rw [HL.out]; exact hto) HBL.out HS2.out h9))
                go_wp2_with (go_at_call 34; refine (ref_blank _ _).mono ?_; rintro e w' ⟨rfl, rfl⟩)
                go_ret2
                rw [HQ3.out, ofL_toL]
                exact ⟨rfl, rfl⟩
              · have h9' : decide ((900 : Int) < (k : Int) - (i : Int)) = false := by simp; omega
                have hik2 : i < k := by
                  have := skipTo_step (fun c => !isBlank c) (toL s) i to hlt (by rw [HL.out]; exact hto) (by simp [HBL.out])
                  have := skipTo_ge (fun c => !isBlank c) (toL s) (i + 1) to
                  have := HS2.out
                  omega
                obtain ⟨m, rfl⟩ : ∃ m, n = m + 1 := ⟨n - 1, by omega⟩
                have HQ3 := Lib.hid (HQ.out.trans (addGo_word m (toL s) i to k (toL x) hlt (by rw [HL.out]; exact hto) HBL.out HS2.out h9))
                have hxs := extract_size s i k (by omega)
                have HXS := Lib.hid hxs
                have hik' : i ≤ k := by omega
                have hks' : k ≤ s.size := by omega
                by_cases hx0 : x.size = 0
                · have hxe : x.toList = [] := toList_nil hx0
                  have o3 : x.size + (s.extract i k).size ≤ 9223372036854775807 := by omega
                  have HTX := Lib.hid (show toL (x ++ s.extract i k) = addWord (toL x) (cutL (toL s) i k) by
                    rw [← extract_toL]; simp [addWord, toL_nil hx0, toL_app])
                  clear hxs
                  go_wp2_with (go_at_call 34; refine (ref_blank _ _).mono ?_; rintro e w' ⟨rfl, rfl⟩)
                  go_roundg (to - k)
                  case measure => omega
                  case rel => exact ⟨rfl, k, m, x ++ s.extract i k, rfl, hk, by omega, rfl, rfl, by rw [HTX.out]; exact HQ3.out, by rw [app_size, HXS.out]; omega⟩
                · have hxe : x.toList.isEmpty = false := toList_cons hx0
                  have o3 : x.size + 1 ≤ 9223372036854775807 := by omega
                  have o4 : x.size + 1 + (s.extract i k).size ≤ 9223372036854775807 := by omega
                  have HTX := Lib.hid (show toL (x ++ ⟨#[32]⟩ ++ s.extract i k) = addWord (toL x) (cutL (toL s) i k) by
                    rw [← extract_toL]; simp [addWord, toL_cons hx0, toL_app, toL_sp])
                  clear hxs
                  go_wp2_with (go_at_call 34; refine (ref_blank _ _).mono ?_; rintro e w' ⟨rfl, rfl⟩)
                  go_roundg (to - k)
                  case measure => omega
                  case rel => exact ⟨rfl, k, m, x ++ ⟨#[32]⟩ ++ s.extract i k, rfl, hk, by omega, rfl, rfl, by rw [HTX.out]; exact HQ3.out, by rw [app_size, app_size, HXS.out, one_size]; omega⟩
          · have m1 : decide ((k : Int) < (to : Int)) = false := by simp; omega
            have HS2 := Lib.hid (HSK.out.trans (skipTo_end (fun c => !isBlank c) (toL s) k to (by omega)))
            by_cases h9 : 900 < k - i
            · have h9' : decide ((900 : Int) < (k : Int) - (i : Int)) = true := by simp; omega
              have HQ3 := Lib.hid (HQ.out.trans (addGo_long n (toL s) i to k (toL x) (by omega) hlt (by rw [HL.out]; exact hto) HBL.out HS2.out h9))
              go_wp2_with fail
              go_ret2
              rw [HQ3.out, ofL_toL]
              exact ⟨rfl, rfl⟩
            · have h9' : decide ((900 : Int) < (k : Int) - (i : Int)) = false := by simp; omega
              have hik2 : i < k := by
                have := skipTo_step (fun c => !isBlank c) (toL s) i to hlt (by rw [HL.out]; exact hto) (by simp [HBL.out])
                have := skipTo_ge (fun c => !isBlank c) (toL s) (i + 1) to
                have := HS2.out
                omega
              obtain ⟨m, rfl⟩ : ∃ m, n = m + 1 := ⟨n - 1, by omega⟩
              have HQ3 := Lib.hid (HQ.out.trans (addGo_word m (toL s) i to k (toL x) hlt (by rw [HL.out]; exact hto) HBL.out HS2.out h9))
              have hxs := extract_size s i k (by omega)
              have HXS := Lib.hid hxs
              have hik' : i ≤ k := by omega
              have hks' : k ≤ s.size := by omega
              by_cases hx0 : x.size = 0
              · have hxe : x.toList = [] := toList_nil hx0
                have o3 : x.size + (s.extract i k).size ≤ 9223372036854775807 := by omega
                have HTX := Lib.hid (show toL (x ++ s.extract i k) = addWord (toL x) (cutL (toL s) i k) by
                  rw [← extract_toL]; simp [addWord, toL_nil hx0, toL_app])
                clear hxs
                go_wp2_with fail
                go_roundg (to - k)
                case measure => omega
                case rel => exact ⟨rfl, k, m, x ++ s.extract i k, rfl, hk, by omega, rfl, rfl, by rw [HTX.out]; exact HQ3.out, by rw [app_size, HXS.out]; omega⟩
              · have hxe : x.toList.isEmpty = false := toList_cons hx0
                have o3 : x.size + 1 ≤ 9223372036854775807 := by omega
                have o4 : x.size + 1 + (s.extract i k).size ≤ 9223372036854775807 := by omega
                have HTX := Lib.hid (show toL (x ++ ⟨#[32]⟩ ++ s.extract i k) = addWord (toL x) (cutL (toL s) i k) by
                  rw [← extract_toL]; simp [addWord, toL_cons hx0, toL_app, toL_sp])
                clear hxs
                go_wp2_with fail
                go_roundg (to - k)
                case measure => omega
                case rel => exact ⟨rfl, k, m, x ++ ⟨#[32]⟩ ++ s.extract i k, rfl, hk, by omega, rfl, rfl, by rw [HTX.out]; exact HQ3.out, by rw [app_size, app_size, HXS.out, one_size]; omega⟩
      · have HQ2 := Lib.hid (HQ.out.trans (addGo_blank n (toL s) i to (toL x) (by omega) hlt (by rw [HL.out]; exact hto) (by rw [toL_getElem _ _ his]; exact hbl)))
        go_wp2_with (go_at_call 34; refine (ref_blank _ _).mono ?_; rintro e w' ⟨rfl, rfl⟩)
        go_roundg (to - (i + 1))
        case measure => omega
        case rel => exact ⟨rfl, i + 1, n, x, rfl, by omega, by omega, by go_num, rfl, HQ2.out, by omega⟩
    · have HQ2 := Lib.hid (HQ.out.trans (addGo_end n (toL s) i to (toL x) (by omega)))
      go_wp2_with fail
      go_ret2
      rw [HQ2.out, ofL_toL]
      exact ⟨rfl, rfl⟩

end Go.Proofs.YtcohgjdijhogbaaGreat
