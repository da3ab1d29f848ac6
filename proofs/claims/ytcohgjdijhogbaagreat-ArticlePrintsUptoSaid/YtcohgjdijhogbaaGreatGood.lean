/- Valid fields, in plain words: what Check asks. No program here. -/
import Derived.Test.YtcohgjdijhogbaaGreatPt1
import Derived.Test.YtcohgjdijhogbaaGreatParseS
namespace Go.Proofs.YtcohgjdijhogbaaGreat
set_option linter.unusedSimpArgs false
set_option linter.unusedVariables false

/-- A word: visible bytes, at least one and at most 900. -/
structure Proper (x : List UInt8) : Prop where
  ne : x ≠ []
  len : x.length ≤ 900
  vis : ∀ c ∈ x, isVisible (num c) = true

theorem vis_nonblank {c : UInt8} (h : isVisible (num c) = true) : isBlank (num c) = false := by
  unfold isVisible at h; unfold isBlank
  simp at h ⊢; omega
theorem vis_fine {c : UInt8} (h : isVisible (num c) = true) : forbidden (num c) = false := by simp [forbidden, h]
theorem blank_fine {c : UInt8} (h : isBlank (num c) = true) : forbidden (num c) = false := by simp [forbidden, h]
theorem vis_noLF {c : UInt8} (h : isVisible (num c) = true) : isLF c = false := by
  unfold isVisible at h
  unfold isLF
  rw [beq_eq_false_iff_ne]; rintro rfl; revert h; decide

theorem takeWhile_all {p : UInt8 → Bool} {x r : List UInt8} (hx : ∀ c ∈ x, p c = true) : (x ++ r).takeWhile p = x ++ r.takeWhile p := by
  induction x with
  | nil => rfl
  | cons c x ih => simp [hx c (by simp), ih (fun c hc => hx c (by simp [hc]))]
theorem dropWhile_all {p : UInt8 → Bool} {x r : List UInt8} (hx : ∀ c ∈ x, p c = true) : (x ++ r).dropWhile p = r.dropWhile p := by
  induction x with
  | nil => rfl
  | cons c x ih => simp [hx c (by simp), ih (fun c hc => hx c (by simp [hc]))]

theorem words_word {x r : List UInt8} (h : Proper x) (hr : r = [] ∨ ∃ r', r = 32 :: r') : words (x ++ r) = x :: words r := by
  obtain ⟨c, x', rfl⟩ : ∃ c x', x = c :: x' := by cases x with | nil => exact absurd rfl h.ne | cons c x' => exact ⟨c, x', rfl⟩
  have hn : ∀ d ∈ c :: x', (fun c => !isBlank (num c)) d = true := fun d hd => by simp [vis_nonblank (h.vis d hd)]
  have h0 : isBlank (num c) = false := vis_nonblank (h.vis c (by simp))
  rw [List.cons_append, words_run c (x' ++ r) h0, ← List.cons_append, takeWhile_all hn, dropWhile_all hn]
  rcases hr with rfl | ⟨r', rfl⟩
  · simp
  · simp [show isBlank (num 32) = true from rfl]
theorem words_space (r : List UInt8) : words (32 :: r) = words r := by
  rw [words_blanks, words_blanks r]; simp [show isBlank (num 32) = true from rfl]

/-- The words of a line, each behind a space. -/
def spaced (ws : List (List UInt8)) : List UInt8 := ws.flatMap fun x => 32 :: x
theorem spaced_form (ws : List (List UInt8)) : spaced ws = [] ∨ ∃ r', spaced ws = 32 :: r' := by
  cases ws with
  | nil => exact .inl rfl
  | cons x r => exact .inr ⟨_, rfl⟩
theorem words_spaced (ws : List (List UInt8)) (h : ∀ x ∈ ws, Proper x) : words (spaced ws) = ws := by
  induction ws with
  | nil => rfl
  | cons x r ih =>
    have e : spaced (x :: r) = 32 :: (x ++ spaced r) := rfl
    rw [e, words_space, words_word (h x (by simp)) (spaced_form r), ih (fun y hy => h y (by simp [hy]))]
theorem joinSp_spaced (x : List UInt8) (r : List (List UInt8)) : joinSp (x :: r) = x ++ spaced r := by
  induction r generalizing x with
  | nil => simp [joinSp, spaced]
  | cons y r ih => rw [joinSp_cons x (y :: r) (by simp), ih y]; rfl
theorem words_joinSp (ws : List (List UInt8)) (h : ∀ x ∈ ws, Proper x) : words (joinSp ws) = ws := by
  cases ws with
  | nil => rfl
  | cons x r => rw [joinSp_spaced, words_word (h x (by simp)) (spaced_form r), words_spaced r (fun y hy => h y (by simp [hy]))]

theorem foldl_addWord (ws : List (List UInt8)) (h : ∀ x ∈ ws, Proper x) : ∀ done : List (List UInt8), (∀ x ∈ done, Proper x) → ws.foldl addWord (joinSp done) = joinSp (done ++ ws) := by
  induction ws with
  | nil => intro done _; simp
  | cons x r ih =>
    intro done hd
    have hx := h x (by simp)
    have e : addWord (joinSp done) x = joinSp (done ++ [x]) := by
      cases done with
      | nil => simp [addWord, joinSp]
      | cons y d =>
        have hne : joinSp (y :: d) ≠ [] := by
          rw [joinSp_spaced]; intro e
          exact (hd y (by simp)).ne (List.append_eq_nil_iff.1 e).1
        rw [joinSp_snoc _ _ (by simp)]
        simp [addWord, hne]
    rw [List.foldl_cons, e, ih (fun y hy => h y (by simp [hy])) (done ++ [x]) (fun y hy => by
      rcases List.mem_append.1 hy with hy | hy
      · exact hd y hy
      · simp at hy; subst hy; exact hx)]
    simp

/-- What the reference's add leaves of a stretch of words that are all short enough. -/
theorem skipTo_take (q : Int → Bool) (l : List UInt8) (a t : Nat) : skipTo q l a t = skipFrom q (l.take t) a := by
  unfold skipTo skipFrom cutL; rw [List.drop_take]
theorem cutL_take (l : List UInt8) (a g t : Nat) (h : g ≤ t) : cutL (l.take t) a g = cutL l a g := by
  unfold cutL; rw [List.drop_take, List.take_take, show min (g - a) (t - a) = g - a from by omega]
theorem cutL_drop (l : List UInt8) (a t : Nat) : cutL l a t = (l.take t).drop a := by unfold cutL; rw [List.drop_take]
theorem addGo_words (l : List UInt8) : ∀ (n a t : Nat) (b : List UInt8), a ≤ t → t ≤ l.length → t - a < n → (∀ x ∈ words (cutL l a t), x.length ≤ 900) →
    addGo n l a t b = ((words (cutL l a t)).foldl addWord b, -1) := by
  intro n
  induction n with
  | zero => intro a t b _ _ h; omega
  | succ n ih =>
    intro a t b hat ht hn hw
    have h1 := skipTo_ge isBlank l a t
    have h2 := skipTo_le isBlank l a t hat ht
    have h3 := skipTo_ge (fun c => !isBlank c) l (skipTo isBlank l a t) t
    have h4 := skipTo_le (fun c => !isBlank c) l (skipTo isBlank l a t) t h2 ht
    have hr := words_round (l.take t) a (skipTo isBlank l a t) (skipTo (fun c => !isBlank c) l (skipTo isBlank l a t) t) (skipTo_take _ _ _ _) (skipTo_take _ _ _ _)
    rw [← cutL_drop, ← cutL_drop, cutL_take _ _ _ _ h4] at hr
    rw [addGo]
    by_cases hc : skipTo isBlank l a t = t
    · rw [if_pos hc]
      have hg : skipTo (fun c => !isBlank c) l (skipTo isBlank l a t) t = t := by omega
      rw [hg, hc] at hr
      have : words (cutL l a t) = [] := by rw [hr]; simp [cutL, words_nil]
      rw [this]; rfl
    · rw [if_neg hc]
      have hlt : skipTo isBlank l a t < t := by omega
      have hprog := words_progress (l.take t) a (skipTo isBlank l a t) (skipTo (fun c => !isBlank c) l (skipTo isBlank l a t) t) (skipTo_take _ _ _ _) (skipTo_take _ _ _ _) (by simp; omega)
      have hfg : skipTo isBlank l a t < skipTo (fun c => !isBlank c) l (skipTo isBlank l a t) t := by
        by_cases e : skipTo isBlank l a t = skipTo (fun c => !isBlank c) l (skipTo isBlank l a t) t
        · have := words_progress (l.take t) (skipTo isBlank l a t) (skipTo isBlank l a t) (skipTo (fun c => !isBlank c) l (skipTo isBlank l a t) t) (by
            rw [← skipTo_take]
            have hidem : skipTo isBlank l (skipTo isBlank l a t) t = skipTo isBlank l a t := by
              have hd := List.head?_dropWhile_not (fun c => isBlank (num c)) (cutL l a t)
              rw [dropWhile_eq_drop] at hd
              have e2 : (cutL l a t).drop ((cutL l a t).takeWhile fun c => isBlank (num c)).length = cutL l (skipTo isBlank l a t) t := by
                unfold skipTo cutL
                rw [List.drop_take, List.drop_drop]
                congr 1; omega
              rw [e2, cutL_cons _ _ _ hlt ht] at hd
              exact skipTo_stop isBlank l _ t hlt ht (by simpa using hd)
            exact hidem.symm) (skipTo_take _ _ _ _) (by simp; omega)
          omega
        · omega
      rw [if_pos hfg] at hr
      have hx : (cutL l (skipTo isBlank l a t) (skipTo (fun c => !isBlank c) l (skipTo isBlank l a t) t)).length ≤ 900 := hw _ (by rw [hr]; simp)
      rw [cutL_length _ _ _ (by omega)] at hx
      rw [if_neg (by omega), ih _ _ _ h4 ht (by omega) (fun x hx => hw x (by rw [hr]; simp [hx])), hr]
      rfl

end Go.Proofs.YtcohgjdijhogbaaGreat
