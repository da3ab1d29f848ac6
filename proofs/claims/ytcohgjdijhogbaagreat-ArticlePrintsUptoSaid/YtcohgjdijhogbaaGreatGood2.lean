/- Check against the plain description of a valid field; printing and parsing. No walk here. -/
import Derived.Test.YtcohgjdijhogbaaGreatGood
import Derived.Test.YtcohgjdijhogbaaGreatPt11
namespace Go.Proofs.YtcohgjdijhogbaaGreat
set_option linter.unusedSimpArgs false
set_option linter.unusedVariables false

structure GoodF (f : Fd) : Prop where
  name : validName f.1 = true
  len : f.2.length ≤ 8192
  body : ∃ ws, f.2 = joinSp ws ∧ ∀ x ∈ ws, Proper x

theorem wordsAux_mem (l : List UInt8) : ∀ cur, (∀ c ∈ cur, isBlank (num c) = false) → ∀ x ∈ wordsAux l cur, x ≠ [] ∧ ∀ c ∈ x, isBlank (num c) = false ∧ (c ∈ cur ∨ c ∈ l) := by
  induction l with
  | nil =>
    intro cur hc x hx
    simp only [wordsAux] at hx
    split at hx
    · cases hx
    · simp at hx; subst hx
      exact ⟨by assumption, fun c h => ⟨hc c h, .inl h⟩⟩
  | cons d r ih =>
    intro cur hc x hx
    simp only [wordsAux] at hx
    split at hx
    · split at hx
      · obtain ⟨h1, h2⟩ := ih [] (by simp) x hx
        exact ⟨h1, fun c h => ⟨(h2 c h).1, .inr (by rcases (h2 c h).2 with k | k; cases k; simp [k])⟩⟩
      · rcases List.mem_cons.1 hx with rfl | hx
        · exact ⟨by assumption, fun c h => ⟨hc c h, .inl h⟩⟩
        · obtain ⟨h1, h2⟩ := ih [] (by simp) x hx
          exact ⟨h1, fun c h => ⟨(h2 c h).1, .inr (by rcases (h2 c h).2 with k | k; cases k; simp [k])⟩⟩
    · rename_i hb
      obtain ⟨h1, h2⟩ := ih (cur ++ [d]) (fun c h => by
        rcases List.mem_append.1 h with h | h
        · exact hc c h
        · simp at h; subst h; simpa using hb) x hx
      refine ⟨h1, fun c h => ⟨(h2 c h).1, ?_⟩⟩
      rcases (h2 c h).2 with k | k
      · rcases List.mem_append.1 k with k | k
        · exact .inl k
        · simp at k; subst k; simp
      · simp [k]
theorem words_mem (l x : List UInt8) (h : x ∈ words l) : x ≠ [] ∧ ∀ c ∈ x, isBlank (num c) = false ∧ c ∈ l := by
  obtain ⟨h1, h2⟩ := wordsAux_mem l [] (by simp) x h
  exact ⟨h1, fun c hc => ⟨(h2 c hc).1, by rcases (h2 c hc).2 with k | k; cases k; exact k⟩⟩

theorem printable_neg (l : List UInt8) : printable l < 0 ↔ ∀ c ∈ l, okPrint (num c) = true := by
  have h := findI_geq (fun c => !okPrint (num c)) l 0
  unfold printable
  rw [← Int.not_le, ← decide_eq_false_iff_not, h, List.any_eq_false]
  simp

theorem check_good (n b : List UInt8) (h : checkF n b = 0) : GoodF (n, b) := by
  unfold checkF at h
  split at h
  · simp at h
  · rename_i h1
    split at h
    · simp at h
    · rename_i h2
      split at h
      · simp at h
      · rename_i h3
        split at h
        · simp at h
        · rename_i h4
          have h5 := (printable_neg b).1 (by omega)
          refine ⟨by simpa using h1, by simp only; omega, words b, (by simpa [squeeze] using h3 : joinSp (words b) = b).symm, fun x hx => ?_⟩
          obtain ⟨m1, m2⟩ := words_mem b x hx
          refine ⟨m1, ?_, fun c hc => ?_⟩
          · rcases Nat.lt_or_ge 900 x.length with h' | h'
            · exact absurd (.inr (List.any_eq_true.2 ⟨x, hx, by simpa using h'⟩)) h4
            · exact h'
          · obtain ⟨k1, k2⟩ := m2 c hc
            have := h5 c k2
            unfold okPrint at this
            simp at this
            rcases this with t | t
            · exact t
            · unfold isBlank at k1; simp at k1; omega
theorem joinSp_mem {ws : List (List UInt8)} {c : UInt8} (h : c ∈ joinSp ws) : c = 32 ∨ ∃ x ∈ ws, c ∈ x := by
  cases ws with
  | nil => cases h
  | cons x r =>
    rw [joinSp_spaced] at h
    rcases List.mem_append.1 h with h | h
    · exact .inr ⟨x, by simp, h⟩
    · simp only [spaced, List.mem_flatMap] at h
      obtain ⟨y, hy, hc⟩ := h
      rcases List.mem_cons.1 hc with rfl | hc
      · exact .inl rfl
      · exact .inr ⟨y, by simp [hy], hc⟩
theorem good_check (n b : List UInt8) (h : GoodF (n, b)) : checkF n b = 0 := by
  obtain ⟨h1, h2, ws, h3, h4⟩ := h
  simp only at h1 h2 h3
  have hw : words b = ws := by rw [h3, words_joinSp ws h4]
  unfold checkF
  rw [if_neg (by simp [h1]), if_neg, if_neg, if_neg]
  · rintro (h | h)
    · omega
    · rw [hw, List.any_eq_true] at h
      obtain ⟨x, hx, hl⟩ := h
      have := (h4 x hx).len
      simp at hl; omega
  · unfold squeeze; rw [hw, ← h3]; simp
  · have : printable b < 0 := by
      rw [printable_neg]
      intro c hc
      rw [h3] at hc
      rcases joinSp_mem hc with rfl | ⟨x, hx, hc⟩
      · rfl
      · simp [okPrint, (h4 x hx).vis c hc]
    omega

/-! ### The lines of a folded field -/
theorem fold_tail (ws : List (List UInt8)) : ∀ line, ∃ fit rest, ws = fit ++ rest ∧ foldW ws false line = line ++ spaced fit ++ 10 :: (if rest = [] then [] else foldW rest true []) ∧ (line ++ spaced fit).length ≤ max 78 line.length := by
  induction ws with
  | nil => intro line; exact ⟨[], [], rfl, by simp [foldW, spaced], by simp [spaced]; omega⟩
  | cons x r ih =>
    intro line
    by_cases hc : line.length + 1 + x.length ≤ 78
    · obtain ⟨fit, rest, h1, h2, h3⟩ := ih (line ++ ([32] ++ x))
      refine ⟨x :: fit, rest, by rw [h1]; rfl, ?_, ?_⟩
      · rw [foldW, if_pos (.inr hc), h2]; simp [spaced]
      · simp [spaced] at h3 ⊢; omega
    · refine ⟨[], x :: r, rfl, ?_, by simp [spaced]; omega⟩
      rw [foldW, if_neg (by simpa using hc)]
      simp [foldW, spaced]
theorem fold_first (x : List UInt8) (r : List (List UInt8)) (line : List UInt8) : ∃ fit rest, x :: r = x :: fit ++ rest ∧ foldW (x :: r) true line = line ++ spaced (x :: fit) ++ 10 :: (if rest = [] then [] else foldW rest true []) ∧ (line ++ spaced (x :: fit)).length ≤ max 78 (line.length + 1 + x.length) := by
  obtain ⟨fit, rest, h1, h2, h3⟩ := fold_tail r (line ++ ([32] ++ x))
  refine ⟨fit, rest, by rw [h1]; rfl, ?_, ?_⟩
  · rw [foldW, if_pos (.inl rfl), h2]; simp [spaced]
  · simp [spaced] at h3 ⊢; omega

end Go.Proofs.YtcohgjdijhogbaaGreat
