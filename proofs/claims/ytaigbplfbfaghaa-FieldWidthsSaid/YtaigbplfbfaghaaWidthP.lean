/- The lines of a folded field. No walk here. -/
import Derived.Test.YtaigbplfbfaghaaPP
namespace Go.Proofs.Ytaigbplfbfaghaa
set_option linter.unusedSimpArgs false
set_option linter.unusedVariables false

theorem spaced_noLF (ws : List (List UInt8)) (h : ∀ x ∈ ws, Proper x) : ∀ c ∈ spaced ws, isLF c = false := by
  intro c hc
  simp only [spaced, List.mem_flatMap] at hc
  obtain ⟨x, hx, hc⟩ := hc
  rcases List.mem_cons.1 hc with rfl | hc
  · rfl
  · exact vis_noLF ((h x hx).vis c hc)

/-- The lines after the first: each is blank-led, none could have taken the next one's first word. -/
inductive GoodTail : Nat → List UInt8 → Prop
  | nil (b : Nat) : GoodTail b []
  | line (b : Nat) (x : List UInt8) (fit : List (List UInt8)) (t : List UInt8) (hx : Proper x) (hf : ∀ y ∈ fit, Proper y) (hw : 78 < (spaced (x :: fit)).length → fit = []) (hb : 78 < b + 1 + x.length) (ht : GoodTail (spaced (x :: fit)).length t) : GoodTail b (spaced (x :: fit) ++ 10 :: t)

/-- A line that is too long holds one word, and the next word did not fit. -/
theorem fold_tail' (ws : List (List UInt8)) : ∀ line, ∃ fit rest, ws = fit ++ rest ∧ foldW ws false line = line ++ spaced fit ++ 10 :: (if rest = [] then [] else foldW rest true []) ∧ ((line ++ spaced fit).length ≤ 78 ∨ fit = []) ∧ (∀ y r, rest = y :: r → 78 < (line ++ spaced fit).length + 1 + y.length) := by
  induction ws with
  | nil => intro line; exact ⟨[], [], rfl, by simp [foldW, spaced], .inr rfl, by simp⟩
  | cons x r ih =>
    intro line
    by_cases hc : line.length + 1 + x.length ≤ 78
    · obtain ⟨fit, rest, h1, h2, h3, h4⟩ := ih (line ++ ([32] ++ x))
      refine ⟨x :: fit, rest, by rw [h1]; rfl, ?_, ?_, ?_⟩
      · rw [foldW, if_pos (.inr hc), h2]; simp [spaced]
      · rcases h3 with h3 | rfl
        · left; simp [spaced] at h3 ⊢; omega
        · left; simp [spaced]; omega
      · intro y r' e; have := h4 y r' e; simp [spaced] at this ⊢; omega
    · refine ⟨[], x :: r, rfl, ?_, .inr rfl, ?_⟩
      · rw [foldW, if_neg (by simpa using hc)]
        simp [foldW, spaced]
      · intro y r' e; simp at e; rw [← e.1]; simp [spaced]; omega

theorem fold_goodTail : ∀ (n : Nat) (ws : List (List UInt8)), ws.length ≤ n → (∀ x ∈ ws, Proper x) → ∀ b, (∀ y r, ws = y :: r → 78 < b + 1 + y.length) → GoodTail b (if ws = [] then [] else foldW ws true []) := by
  intro n
  induction n with
  | zero => intro ws h _ b _; have : ws = [] := List.eq_nil_of_length_eq_zero (by omega); subst this; exact .nil _
  | succ n ih =>
    intro ws hn hp b hb
    cases ws with
    | nil => exact .nil _
    | cons x r =>
      obtain ⟨fit, rest, h1, h2, h3, h4⟩ := fold_tail' r ([] ++ ([32] ++ x))
      have e : foldW (x :: r) true [] = spaced (x :: fit) ++ 10 :: (if rest = [] then [] else foldW rest true []) := by
        rw [foldW, if_pos (.inl rfl), h2]; simp [spaced]
      have el : (([] : List UInt8) ++ ([32] ++ x) ++ spaced fit).length = (spaced (x :: fit)).length := by simp [spaced]
      rw [el] at h3 h4
      rw [if_neg (by simp), e]
      refine .line b x fit _ (hp x (by simp)) (fun y hy => hp y (by rw [h1]; simp [hy])) ?_ (hb x r rfl) ?_
      · intro h; rcases h3 with h3 | h3
        · omega
        · exact h3
      · refine ih rest ?_ (fun y hy => hp y (by rw [h1]; simp [hy])) _ h4
        have := congrArg List.length h1; simp at this hn; omega

/-- The whole text: the first line, then the tail. -/
theorem fold_lines (n b : List UInt8) (h : GoodF (n, b)) : ∃ fit t, foldF n b = (n ++ [58]) ++ spaced fit ++ 10 :: t ∧ (∀ y ∈ fit, Proper y) ∧ (78 < ((n ++ [58]) ++ spaced fit).length → fit.length ≤ 1) ∧ GoodTail ((n ++ [58]) ++ spaced fit).length t := by
  obtain ⟨_, _, ws, hb, hp⟩ := h
  simp only at hb
  have hw : words b = ws := by rw [hb, words_joinSp ws hp]
  unfold foldF
  rw [hw]
  cases ws with
  | nil => exact ⟨[], [], by simp [foldW, spaced], by simp, by simp, .nil _⟩
  | cons x r =>
    obtain ⟨fit, rest, h1, h2, h3, h4⟩ := fold_tail' r ((n ++ [58]) ++ ([32] ++ x))
    have el : ((n ++ [58]) ++ ([32] ++ x) ++ spaced fit).length = ((n ++ [58]) ++ spaced (x :: fit)).length := by simp [spaced]
    rw [el] at h3 h4
    refine ⟨x :: fit, if rest = [] then [] else foldW rest true [], ?_, ?_, ?_, ?_⟩
    · rw [foldW, if_pos (.inl rfl), h2]; simp [spaced]
    · intro y hy; exact hp y (by rw [h1]; rcases List.mem_cons.1 hy with rfl | hy <;> simp [*])
    · intro h; rcases h3 with h3 | h3
      · omega
      · simp [h3]
    · exact fold_goodTail _ rest (Nat.le_refl _) (fun y hy => hp y (by rw [h1]; simp [hy])) _ h4

end Go.Proofs.Ytaigbplfbfaghaa
