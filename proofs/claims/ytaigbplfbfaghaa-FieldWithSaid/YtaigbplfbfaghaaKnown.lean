/- The walk over known, the chapter's examples. -/
import Derived.Test.YtaigbplfbfaghaaParse5
namespace Go.Proofs.Ytaigbplfbfaghaa
set_option linter.unusedSimpArgs false
set_option linter.unusedVariables false
open Go.RowKit

theorem parse_ex1 : parseF (toL ⟨#[83, 117, 98, 106, 101, 99, 116, 58, 32, 97, 10, 9, 32, 98, 10, 88, 58, 10]⟩) = ([([83, 117, 98, 106, 101, 99, 116], [97, 32, 98]), ([88], [])], 0, 0) := by decide +kernel
theorem parse_ex2 : parseF (toL ⟨#[32, 97, 10]⟩) = ([], 0, 3) := by decide +kernel
theorem parse_ex3 : parseF (toL ⟨#[65, 58, 32, 98, 0, 10]⟩) = ([], 4, 6) := by decide +kernel
theorem print_ex : printF [([83, 117, 98, 106, 101, 99, 116], [97, 32, 98]), ([88], [])] = ([83, 117, 98, 106, 101, 99, 116, 58, 32, 97, 32, 98, 10, 88, 58, 10], 0) := by decide +kernel

set_option maxHeartbeats 2000000 in
set_option maxRecDepth 100000 in
theorem law_known (w : World) : Calls Try.prog 11 #[] w fun e w' => e = .returned (.bool true) ∧ Below w.heap.size w w' := by
  go_enter Try.func11, Try.ntmps11
  go_wp2_with fail
  (with_reducible refine (fld_parse _ w (by decide)).mono ?_)
  rintro e w1 ⟨v, rfl, hown, hb1⟩
  rw [parse_ex1] at hown ⊢
  obtain ⟨A, c, rfl, hrow⟩ := own_row hown
  obtain ⟨bb, off, rfl, _⟩ := hrow.at (k := 0) (by rw [fldsV_length]; decide)
  simp only [List.length_cons, List.length_nil]
  have hpr : Calls Try.prog 20 #[.slice (some ⟨bb, off, none⟩) 2 c] w1 fun e w' => e = .returned (.tuple #[.string (ofL (printF [([83, 117, 98, 106, 101, 99, 116], [97, 32, 98]), ([88], [])]).1), .int .i64 (printF [([83, 117, 98, 106, 101, 99, 116], [97, 32, 98]), ([88], [])]).2]) ∧ Below w1.heap.size w1 w' :=
    fld_print (some ⟨bb, off, none⟩) _ c w1 hrow ⟨by decide, by decide⟩
  rw [print_ex] at hpr
  have e1 : ofL [83, 117, 98, 106, 101, 99, 116, 58, 32, 97, 32, 98, 10, 88, 58, 10] = ⟨#[83, 117, 98, 106, 101, 99, 116, 58, 32, 97, 32, 98, 10, 88, 58, 10]⟩ := rfl
  simp only [e1] at hpr
  clear e1
  have HPR := Lib.hid hpr
  clear hpr
  go_wp2_with fail
  (with_reducible refine HPR.out.mono ?_)
  rintro e w2 ⟨rfl, hb2⟩
  have hbw2 := hb1.trans (hb2.mono hb1.size)
  go_wp2_with fail
  (with_reducible refine (fld_parse _ w2 (by decide)).mono ?_)
  rintro e w3 ⟨v3, rfl, _, hb3⟩
  rw [parse_ex2]
  have hbw3 := hbw2.trans (hb3.mono hbw2.size)
  go_wp2_with fail
  (with_reducible refine (fld_parse _ w3 (by decide)).mono ?_)
  rintro e w4 ⟨v4, rfl, _, hb4⟩
  rw [parse_ex3]
  have hbw4 := hbw3.trans (hb4.mono hbw3.size)
  have hr4 := ((hrow.below hb2).below hb3).below hb4
  obtain ⟨c1, c2⟩ := hr4.field' (k := 0) (by decide) (n := ⟨#[83, 117, 98, 106, 101, 99, 116]⟩) (b := ⟨#[97, 32, 98]⟩) rfl rfl
  obtain ⟨c3, c4⟩ := hr4.field' (k := 1) (by decide) (n := ⟨#[88]⟩) (b := ⟨#[]⟩) rfl rfl
  rw [Nat.zero_mul, Nat.add_zero] at c1 c2
  rw [Nat.one_mul] at c3 c4
  clear HPR hrow hown hr4 hb1 hb2 hb3 hb4
  go_wp2_with fail
  go_ret
  exact ⟨rfl, hbw4⟩

end Go.Proofs.Ytaigbplfbfaghaa
