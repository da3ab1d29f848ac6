/- Walks over the reference's alnum and Char. -/
import Derived.Test.YtcknomaaikeebaaDoorWmQ
namespace Go.Proofs.YtcknomaaikeebaaDoor
set_option linter.unusedSimpArgs false
set_option linter.unusedVariables false
open Go.RowKit

/-- 1 for a letter, 2 for a digit. -/
def alF (c : UInt8) : Int := if isLower (num c) then 1 else if isDigit (num c) then 2 else 0
set_option maxHeartbeats 1000000 in
theorem rf_alnum (c : UInt8) (w : World) : Calls Tryd.prog 31 #[.int .u8 (num c)] w fun e w' => e = .returned (.int .i64 (alF c)) ∧ w = w' := by
  by_cases h1 : 97 ≤ num c
  · by_cases h2 : num c ≤ 122
    · have HE := Lib.hid (show alF c = 1 by unfold alF; rw [if_pos (by simp [isLower, h1, h2])])
      go_enter Tryd.func31, Tryd.ntmps31
      go_wp2_with fail
      go_ret
      exact ⟨by rw [HE.out]; rfl, rfl⟩
    · have t3 : (48 : Int) ≤ num c := by omega
      have t4 : (57 : Int) < num c := by omega
      have t2 : (122 : Int) < num c := by omega
      have HE := Lib.hid (show alF c = 0 by unfold alF; rw [if_neg (by simp [isLower]; omega), if_neg (by simp [isDigit]; omega)])
      clear h2
      go_enter Tryd.func31, Tryd.ntmps31
      go_wp2_with fail
      go_ret
      exact ⟨by rw [HE.out]; rfl, rfl⟩
  · have t1 : num c < 97 := by omega
    by_cases h3 : 48 ≤ num c
    · by_cases h4 : num c ≤ 57
      · have HE := Lib.hid (show alF c = 2 by unfold alF; rw [if_neg (by simp [isLower]; omega), if_pos (by simp [isDigit, h3, h4])])
        clear h1
        go_enter Tryd.func31, Tryd.ntmps31
        go_wp2_with fail
        go_ret
        exact ⟨by rw [HE.out]; rfl, rfl⟩
      · have t4 : (57 : Int) < num c := by omega
        have HE := Lib.hid (show alF c = 0 by unfold alF; rw [if_neg (by simp [isLower]; omega), if_neg (by simp [isDigit]; omega)])
        clear h1 h4
        go_enter Tryd.func31, Tryd.ntmps31
        go_wp2_with fail
        go_ret
        exact ⟨by rw [HE.out]; rfl, rfl⟩
    · have t3 : num c < 48 := by omega
      have HE := Lib.hid (show alF c = 0 by unfold alF; rw [if_neg (by simp [isLower]; omega), if_neg (by simp [isDigit]; omega)])
      clear h1 h3
      go_enter Tryd.func31, Tryd.ntmps31
      go_wp2_with fail
      go_ret
      exact ⟨by rw [HE.out]; rfl, rfl⟩
theorem alF_al (c : UInt8) : decide (0 < alF c) = isAl c := by
  unfold alF isAl
  cases isLower (num c) <;> cases isDigit (num c) <;> simp
theorem alF_range (c : UInt8) : 0 ≤ alF c ∧ alF c ≤ 2 := by
  unfold alF; split <;> (try split) <;> simp
theorem alF_zero (c : UInt8) : (alF c == 0) = !isAl c := by
  unfold alF isAl
  cases isLower (num c) <;> cases isDigit (num c) <;> simp
set_option maxHeartbeats 2000000 in
theorem rf_char (c : UInt8) (w : World) : Calls Tryd.prog 17 #[.int .u8 (num c)] w fun e w' => e = .returned (.bool (isChar c)) ∧ w = w' := by
  have HN := Lib.hid (isChar_num c)
  have HA := Lib.hid (alF_al c)
  rcases ha : isAl c with _ | _
  · rw [ha] at HN HA
    rcases e1 : (num c == 43) with _ | _
    all_goals
      rcases e2 : (num c == 45) with _ | _
      all_goals
        rcases e3 : (num c == 95) with _ | _
        all_goals
          rw [e1, e2, e3] at HN
          have hal := HA.out
          go_enter Tryd.func17, Tryd.ntmps17
          go_wp2_with fail
          (with_reducible refine (rf_alnum c _).mono ?_)
          rintro e w' ⟨rfl, rfl⟩
          go_wp2_with fail
          go_ret
          exact ⟨ret_bool (by rw [HN.out]; simp), rfl⟩
  · rw [ha] at HN HA
    have hal := HA.out
    go_enter Tryd.func17, Tryd.ntmps17
    go_wp2_with fail
    (with_reducible refine (rf_alnum c _).mono ?_)
    rintro e w' ⟨rfl, rfl⟩
    go_wp2_with fail
    go_ret
    exact ⟨ret_bool (by rw [HN.out]; simp), rfl⟩
end Go.Proofs.YtcknomaaikeebaaDoor
