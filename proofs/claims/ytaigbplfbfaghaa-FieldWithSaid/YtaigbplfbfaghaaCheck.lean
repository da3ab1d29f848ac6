/- Walks over field.Field.Check and its reference. -/
import Derived.Test.YtaigbplfbfaghaaStrFind
import Derived.Test.YtaigbplfbfaghaaName
namespace Go.Proofs.Ytaigbplfbfaghaa
set_option linter.unusedSimpArgs false
set_option linter.unusedVariables false
open Go.RowKit

/-- The first error of a field. -/
def checkF (name body : List UInt8) : Int :=
  if validName name = false then 12
  else if 0 ≤ printable body then 6
  else if squeeze body ≠ body then 3
  else if 8192 < body.length ∨ (words body).any (fun x => decide (900 < x.length)) = true then 5
  else 0

theorem words_mem_le (l x : List UInt8) (h : x ∈ words l) : x.length ≤ l.length := by
  have h1 := joinSp_mem_le _ _ h
  have h2 := squeeze_le l
  unfold squeeze at h2; omega

set_option maxHeartbeats 400000 in
theorem fld_tooLong (s : ByteArray) (w : World) :
    Calls Try.prog 49 #[.string s] w fun e w' => e = .returned (.bool (decide (900 < (toL s).length))) ∧ Below w.heap.size w w' := by
  have H := Lib.hid (toL_length s)
  go_enter Try.func49, Try.ntmps49
  go_wp2_with fail
  go_ret
  exact ⟨ret_bool (by rw [H.out, decide_eq_decide]; omega), Below.refl _ _⟩
theorem pred_tooLong : StrPred 49 #[] (fun x => decide (900 < x.length)) (fun _ => True) :=
  ⟨Try.call49, fun s w _ _ => fld_tooLong s w, fun _ _ _ _ => trivial⟩

set_option maxHeartbeats 1000000 in
set_option maxRecDepth 100000 in
theorem fld_check (n b : ByteArray) (w : World) (hn : n.size ≤ 1000000) (hb : b.size ≤ 1000000) :
    Calls Try.prog 17 #[.agg #[.string n, .string b]] w fun e w' => e = .returned (.int .i64 (checkF (toL n) (toL b))) ∧ Below w.heap.size w w' := by
  rcases h1 : validName (toL n) with _ | _
  · have H := Lib.hid (show checkF (toL n) (toL b) = 12 by simp [checkF, h1])
    go_enter Try.func17, Try.ntmps17
    go_wp2_with fail
    refine (fld_validName n _ (by unfold maxLen; omega)).mono ?_
    rintro e w1 ⟨rfl, hb1⟩
    go_wp2_with fail
    go_ret
    exact ⟨ret_int H.out.symm, ((Below.refl _ _).alloc (Nat.le_refl _) _).trans (hb1.mono (by simp))⟩
  · go_enter Try.func17, Try.ntmps17
    go_wp2_with fail
    refine (fld_validName n _ (by unfold maxLen; omega)).mono ?_
    rintro e w1 ⟨rfl, hb1⟩
    have hbw : Below w.heap.size w w1 := ((Below.refl _ _).alloc (Nat.le_refl _) _).trans (hb1.mono (by simp))
    have hc1 : w1.cell? ⟨w.heap.size, 1, none⟩ = some (.string b) := by rw [hb1.cell (p := ⟨w.heap.size, 1, none⟩) (by simp)]; simp
    have hz1 : w.heap.size < w1.heap.size := by have := hb1.size; simp at this; omega
    clear hb1
    by_cases h2 : 0 ≤ printable (toL b)
    · have H := Lib.hid (show checkF (toL n) (toL b) = 6 by simp [checkF, h1, h2])
      have h2' : decide (0 ≤ printable (toL b)) = true := by simpa using h2
      go_wp2_with (go_at_call 50; refine (asc_printable b _ hb).mono ?_; rintro e w2 ⟨rfl, rfl⟩)
      go_ret
      exact ⟨ret_int H.out.symm, hbw⟩
    · have h2f : decide (0 ≤ printable (toL b)) = false := by simpa using h2
      have H2 := Lib.hid (Int.not_le.1 h2)
      clear h2
      go_wp2_with (go_at_call 50; refine (asc_printable b _ hb).mono ?_; rintro e w2 ⟨rfl, rfl⟩)
      by_cases h3 : squeeze (toL b) = toL b
      · have h3' : ((ofL (squeeze (toL b))).toList == b.toList) = true := by rw [neq_ofL]; simpa using h3
        have H3 := Lib.hid h3; clear h3
        go_region_held3 (fun w' => w'.cell? ⟨w.heap.size, 1, none⟩ = some (.string b))
          (first
            | go_keep
            | ((rw [hb2.cell (p := ⟨w.heap.size, 1, none⟩) (by simp; omega)]; assumption)))
          (first | (go_at_call 51; refine (asc_squeeze b _ hb).mono ?_; rintro e w2 ⟨rfl, hb2⟩))
        have hbw2 : Below w.heap.size w w2 := hbw.trans ((below_undrew hb2).mono hbw.size)
        have hz2 : w.heap.size < w2.heap.size := by have := (below_undrew hb2).size; omega
        clear hb2
        by_cases h4 : 8192 < b.size
        · have h4' : decide ((8192 : Int) < (b.size : Int)) = true := by simp; omega
          have H := Lib.hid (show checkF (toL n) (toL b) = 5 by simp only [checkF]; rw [if_neg (by simp [h1]), if_neg (Int.not_le.2 H2.out), if_neg (by simp [H3.out]), if_pos (.inl (by rw [toL_length]; exact h4))])
          go_wp2_with fail
          go_ret
          exact ⟨ret_int H.out.symm, hbw2⟩
        · have h4' : decide ((8192 : Int) < (b.size : Int)) = false := by simp; omega
          go_wp2_with fail
          refine (asc_words b _ hb).mono ?_
          rintro e w3 ⟨v, rfl, hown, hb3⟩
          obtain ⟨A, c, rfl, hrow⟩ := own_row hown
          have hw1 := wordsAux_sum (toL b) []
          rw [toL_length] at hw1
          have HC := Lib.hid (sl_containsFunc_str 49 #[] _ _ pred_tooLong A (words (toL b)) c w3 (by unfold words; omega) hrow trivial (fun x hx => by have := words_mem_le _ _ hx; rw [toL_length] at this; unfold maxLen; omega))
          clear hrow hown
          rcases h5 : (words (toL b)).any (fun x => decide (900 < x.length)) with _ | _
          · have H := Lib.hid (show checkF (toL n) (toL b) = 0 by simp only [checkF]; rw [if_neg (by simp [h1]), if_neg (Int.not_le.2 H2.out), if_neg (by simp [H3.out]), if_neg (by rw [h5, toL_length]; simp; omega)])
            rw [h5] at HC
            clear h5
            go_wp2_with (go_at_call 52; refine HC.out.mono ?_; rintro e w4 ⟨rfl, hb4⟩)
            go_ret
            exact ⟨ret_int H.out.symm, (hbw2.trans (hb3.mono hbw2.size)).trans (hb4.mono (hbw2.trans (hb3.mono hbw2.size)).size)⟩
          · have H := Lib.hid (show checkF (toL n) (toL b) = 5 by simp only [checkF]; rw [if_neg (by simp [h1]), if_neg (Int.not_le.2 H2.out), if_neg (by simp [H3.out]), if_pos (.inr h5)])
            rw [h5] at HC
            clear h5
            go_wp2_with (go_at_call 52; refine HC.out.mono ?_; rintro e w4 ⟨rfl, hb4⟩)
            go_ret
            exact ⟨ret_int H.out.symm, (hbw2.trans (hb3.mono hbw2.size)).trans (hb4.mono (hbw2.trans (hb3.mono hbw2.size)).size)⟩
      · have h3' : ((ofL (squeeze (toL b))).toList == b.toList) = false := by rw [neq_ofL]; simpa using h3
        have H := Lib.hid (show checkF (toL n) (toL b) = 3 by simp only [checkF]; rw [if_neg (by simp [h1]), if_neg (Int.not_le.2 H2.out), if_pos h3])
        clear h3
        go_region_held3 (fun w' => w'.cell? ⟨w.heap.size, 1, none⟩ = some (.string b))
          (first
            | go_keep
            | ((rw [hb2.cell (p := ⟨w.heap.size, 1, none⟩) (by simp; omega)]; assumption)))
          (first | (go_at_call 51; refine (asc_squeeze b _ hb).mono ?_; rintro e w2 ⟨rfl, hb2⟩))
        go_wp2_with fail
        go_ret
        exact ⟨ret_int H.out.symm, hbw.trans ((below_undrew hb2).mono hbw.size)⟩


theorem any_drop_step {p : List UInt8 → Bool} {l : List (List UInt8)} {k : Nat} (h : k < l.length) (hp : p l[k] = false) (hq : l.any p = (l.drop k).any p) : l.any p = (l.drop (k + 1)).any p := by
  rw [hq, List.drop_eq_getElem_cons h, List.any_cons, hp]; simp
theorem any_drop_hit {p : List UInt8 → Bool} {l : List (List UInt8)} {k : Nat} (h : k < l.length) (hp : p l[k] = true) : l.any p = true :=
  List.any_eq_true.2 ⟨_, List.getElem_mem h, hp⟩

set_option maxHeartbeats 1000000 in
set_option maxRecDepth 100000 in
theorem ref_check (n b : ByteArray) (w : World) (hn : n.size ≤ 1000000) (hb : b.size ≤ 1000000) :
    Calls Try.prog 16 #[.agg #[.string n, .string b]] w fun e w' => e = .returned (.int .i64 (checkF (toL n) (toL b))) ∧ Below w.heap.size w w' := by
  rcases h1 : validName (toL n) with _ | _
  · have H := Lib.hid (show checkF (toL n) (toL b) = 12 by simp [checkF, h1])
    go_enter Try.func16, Try.ntmps16
    go_wp2_with (go_at_call 13; refine (ref_validName n _ (by unfold maxLen; omega)).mono ?_; rintro e w1 ⟨rfl, rfl⟩)
    go_ret
    exact ⟨ret_int H.out.symm, (Below.refl _ _).alloc (Nat.le_refl _) _⟩
  · by_cases h2 : 0 ≤ printable (toL b)
    · have H := Lib.hid (show checkF (toL n) (toL b) = 6 by simp [checkF, h1, h2])
      have h2' : decide (0 ≤ printable (toL b)) = true := by simpa using h2
      go_enter Try.func16, Try.ntmps16
      go_wp2_with (first | (go_at_call 13; refine (ref_validName n _ (by unfold maxLen; omega)).mono ?_; rintro e w1 ⟨rfl, rfl⟩) | (go_at_call 47; refine (ref_printable b _ hb).mono ?_; rintro e w2 ⟨rfl, rfl⟩))
      go_ret
      exact ⟨ret_int H.out.symm, (Below.refl _ _).alloc (Nat.le_refl _) _⟩
    · have h2f : decide (0 ≤ printable (toL b)) = false := by simpa using h2
      have H2 := Lib.hid (Int.not_le.1 h2)
      clear h2
      go_enter Try.func16, Try.ntmps16
      go_wp2_with (first | (go_at_call 13; refine (ref_validName n _ (by unfold maxLen; omega)).mono ?_; rintro e w1 ⟨rfl, rfl⟩) | (go_at_call 47; refine (ref_printable b _ hb).mono ?_; rintro e w2 ⟨rfl, rfl⟩))
      obtain ⟨w1, hw1⟩ : ∃ w1, w1 = w.alloc (.cells #[.string n, .string b] 25 (0, 0)) := ⟨_, rfl⟩
      rw [← hw1]
      have hbw : Below w.heap.size w w1 := by rw [hw1]; exact (Below.refl _ _).alloc (Nat.le_refl _) _
      have hc1 : w1.cell? ⟨w.heap.size, 1, none⟩ = some (.string b) := by rw [hw1]; simp
      have hz1 : w.heap.size < w1.heap.size := by rw [hw1]; simp
      clear hw1
      by_cases h3 : squeeze (toL b) = toL b
      · have h3' : ((ofL (squeeze (toL b))).toList == b.toList) = true := by rw [neq_ofL]; simpa using h3
        have H3 := Lib.hid h3; clear h3
        go_region_held3 (fun w' => w'.cell? ⟨w.heap.size, 1, none⟩ = some (.string b))
          (first
            | go_keep
            | ((rw [hb2.cell (p := ⟨w.heap.size, 1, none⟩) (by simp; omega)]; assumption)))
          (first | (go_at_call 48; refine (ref_squeeze b _ hb).mono ?_; rintro e w2 ⟨rfl, hb2⟩))
        have hbw2 : Below w.heap.size w w2 := hbw.trans ((below_undrew hb2).mono hbw.size)
        have hz2 : w.heap.size < w2.heap.size := by have := (below_undrew hb2).size; omega
        clear hb2
        by_cases h4 : 8192 < b.size
        · have h4' : decide ((8192 : Int) < (b.size : Int)) = true := by simp; omega
          have H := Lib.hid (show checkF (toL n) (toL b) = 5 by simp only [checkF]; rw [if_neg (by simp [h1]), if_neg (Int.not_le.2 H2.out), if_neg (by simp [H3.out]), if_pos (.inl (by rw [toL_length]; exact h4))])
          go_wp2_with fail
          go_ret
          exact ⟨ret_int H.out.symm, hbw2⟩
        · have h4' : decide ((8192 : Int) < (b.size : Int)) = false := by simp; omega
          go_wp2_with fail
          refine (ref_words b _ hb).mono ?_
          rintro e w3 ⟨v, rfl, hown, hb3⟩
          obtain ⟨A, c, rfl, hrow⟩ := own_row hown
          have hw1 := wordsAux_sum (toL b) []
          rw [toL_length, ← words] at hw1
          have HX := Lib.hid (show ∀ q : Bool, (words (toL b)).any (fun x => decide (900 < x.length)) = q → checkF (toL n) (toL b) = if q then 5 else 0 from fun q hq => by
            simp only [checkF]
            rw [if_neg (by simp [h1]), if_neg (Int.not_le.2 H2.out), if_neg (by simp [H3.out]), hq]
            cases q
            · rw [if_neg (by rw [toL_length]; simp; omega)]; rfl
            · rw [if_pos (.inr rfl)]; rfl)
          have HM := Lib.hid (show ∀ x ∈ words (toL b), x.length ≤ 1000000 from fun x hx => by have := words_mem_le _ _ hx; rw [toL_length] at this; omega)
          have hbw3 := hbw2.trans (hb3.mono hbw2.size)
          have HROW := Lib.hid hrow
          clear hrow hown hb3
          generalize words (toL b) = l at *
          go_wp2_with fail
          go_loop [4] (fun i => ∃ k : Nat, k ≤ l.length ∧ i = .int .i64 k ∧ l.any (fun x => decide (900 < x.length)) = (l.drop k).any (fun x => decide (900 < x.length))) (fun i => l.length - (intOf i).toNat)
          case atStart => exact ⟨0, by omega, rfl, rfl⟩
          case round =>
            obtain ⟨k, hk, rfl, hq⟩ := hrel
            have HQ := Lib.hid hq; clear hq
            by_cases hlt : k < l.length
            · obtain ⟨g, off, rfl, hc⟩ := HROW.out.cell (k := k) (by simpa using hlt)
              rw [List.getElem_map] at hc
              have hsz := ofL_size l[k]
              by_cases h6 : 900 < l[k].length
              · have h6' : decide ((900 : Int) < ((ofL l[k]).size : Int)) = true := by simp; omega
                have H := Lib.hid (HX.out true (any_drop_hit hlt (by simpa using h6)))
                clear hsz
                go_wp2_with fail
                go_ret
                exact ⟨ret_int H.out.symm, hbw3⟩
              · have h6' : decide ((900 : Int) < ((ofL l[k]).size : Int)) = false := by simp; omega
                have HS := Lib.hid (any_drop_step hlt (by simpa using h6) HQ.out)
                clear hsz
                go_wp2_with fail
                go_round
                case rel => exact ⟨k + 1, by omega, by go_num, HS.out⟩
                case measure => simp [intOf] <;> omega
            · have H := Lib.hid (HX.out false (by rw [HQ.out, List.drop_eq_nil_of_le (by omega)]; rfl))
              go_wp2_with fail
              go_ret
              exact ⟨ret_int H.out.symm, hbw3⟩
      · have h3' : ((ofL (squeeze (toL b))).toList == b.toList) = false := by rw [neq_ofL]; simpa using h3
        have H := Lib.hid (show checkF (toL n) (toL b) = 3 by simp only [checkF]; rw [if_neg (by simp [h1]), if_neg (Int.not_le.2 H2.out), if_pos h3])
        clear h3
        go_region_held3 (fun w' => w'.cell? ⟨w.heap.size, 1, none⟩ = some (.string b))
          (first
            | go_keep
            | ((rw [hb2.cell (p := ⟨w.heap.size, 1, none⟩) (by simp; omega)]; assumption)))
          (first | (go_at_call 48; refine (ref_squeeze b _ hb).mono ?_; rintro e w2 ⟨rfl, hb2⟩))
        go_wp2_with fail
        go_ret
        exact ⟨ret_int H.out.symm, hbw.trans ((below_undrew hb2).mono hbw.size)⟩

end Go.Proofs.Ytaigbplfbfaghaa
