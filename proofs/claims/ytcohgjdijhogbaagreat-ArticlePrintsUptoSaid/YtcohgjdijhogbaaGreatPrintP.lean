/- Plain: an article that was printed is parsed again. -/
import Derived.Test.YtcohgjdijhogbaaGreatCanonP
import Derived.Test.YtcohgjdijhogbaaGreatHeadP
namespace Go.Proofs.YtcohgjdijhogbaaGreat
set_option linter.unusedSimpArgs false
set_option linter.unusedVariables false

theorem printGo_ok (l : List Fd) : ∀ out, (printGo l out).2 = 0 → (∀ f ∈ l, GoodF f) ∧ (printGo l out).1 = out ++ (l.flatMap fun f => foldF f.1 f.2) ∧ (printGo l out).1.length ≤ 65536 := by
  induction l with
  | nil =>
    intro out h
    simp only [printGo] at h ⊢
    split at h
    · simp at h
    · rename_i h5
      rw [if_neg h5]
      exact ⟨by simp, by simp, by simp only; omega⟩
  | cons f r ih =>
    intro out h
    simp only [printGo] at h ⊢
    by_cases hc : checkF f.1 f.2 = 0
    · rw [if_neg (by simp [hc])] at h ⊢
      obtain ⟨h1, h2, h3⟩ := ih _ h
      refine ⟨fun g hg => ?_, by rw [h2]; simp, h3⟩
      rcases List.mem_cons.1 hg with rfl | hg
      · exact check_good _ _ hc
      · exact h1 g hg
    · rw [if_pos hc] at h; exact absurd h hc
theorem printF_ok (l : List Fd) (h : (printF l).2 = 0) : (∀ f ∈ l, GoodF f) ∧ l.length ≤ 64 ∧ (printF l).1 = (l.flatMap fun f => foldF f.1 f.2) ∧ (printF l).1.length ≤ 65536 := by
  unfold printF at h ⊢
  split at h
  · simp at h
  · rename_i h6
    rw [if_neg h6]
    obtain ⟨h1, h2, h3⟩ := printGo_ok l [] h
    exact ⟨h1, by omega, by rw [h2]; simp, h3⟩
theorem parse_printF (l : List Fd) (h : (printF l).2 = 0) : parseF (printF l).1 = (l, 0, 0) := by
  obtain ⟨h1, h2, h3, h4⟩ := printF_ok l h
  rw [h3] at h4 ⊢
  exact parse_print l h1 h2 h4

/-- No empty line, and the last line is ended. -/
structure NoEmpt (T : List UInt8) : Prop where
  no : ∀ j : Nat, T[j]? = some 10 → 0 < j ∧ T[j - 1]? ≠ some 10
  last : T = [] ∨ T[T.length - 1]? = some 10
theorem NoEmpt.nil : NoEmpt [] := ⟨fun j h => by simp at h, .inl rfl⟩
theorem NoEmpt.append {A B : List UInt8} (ha : NoEmpt A) (hb : NoEmpt B) : NoEmpt (A ++ B) := by
  refine ⟨fun j h => ?_, ?_⟩
  · by_cases hj : j < A.length
    · rw [List.getElem?_append_left hj] at h
      obtain ⟨h1, h2⟩ := ha.no j h
      exact ⟨h1, by rw [List.getElem?_append_left (by omega)]; exact h2⟩
    · rw [List.getElem?_append_right (by omega)] at h
      obtain ⟨h1, h2⟩ := hb.no _ h
      exact ⟨by omega, by rw [List.getElem?_append_right (by omega), show j - 1 - A.length = j - A.length - 1 from by omega]; exact h2⟩
  · rcases hb.last with rfl | h
    · rw [List.append_nil]; exact ha.last
    · by_cases hn : B = []
      · subst hn; rw [List.append_nil]; exact ha.last
      · have : 0 < B.length := List.length_pos_iff.2 hn
        refine .inr ?_
        rw [List.length_append, List.getElem?_append_right (by omega), show A.length + B.length - 1 - A.length = B.length - 1 from by omega]; exact h
theorem NoEmpt.line {P : List UInt8} (h1 : P ≠ []) (h2 : ∀ c ∈ P, c ≠ 10) : NoEmpt (P ++ [10]) := by
  have hp : 0 < P.length := List.length_pos_iff.2 h1
  have hne : ∀ j : Nat, j < P.length → (P ++ [10])[j]? ≠ some 10 := by
    intro j hj e
    rw [List.getElem?_append_left hj] at e
    exact h2 10 (List.mem_of_getElem? e) rfl
  refine ⟨fun j h => ?_, .inr ?_⟩
  · have hj : ¬ j < P.length := fun g => hne j g h
    have hj2 : j < (P ++ [10]).length := by
      rcases Nat.lt_or_ge j (P ++ [10]).length with g | g
      · exact g
      · rw [List.getElem?_eq_none g] at h; simp at h
    simp only [List.length_append, List.length_cons, List.length_nil] at hj2
    exact ⟨by omega, hne _ (by omega)⟩
  · simp
theorem noEmpt_foldW (ws : List (List UInt8)) (hw : ∀ x ∈ ws, ∀ c ∈ x, c ≠ (10 : UInt8)) : ∀ (f : Bool) (line : List UInt8), line ≠ [] → (∀ c ∈ line, c ≠ 10) → NoEmpt (foldW ws f line) := by
  induction ws with
  | nil => intro f line h1 h2; rw [foldW]; exact NoEmpt.line h1 h2
  | cons x r ih =>
    intro f line h1 h2
    have hx : ∀ c ∈ [32] ++ x, c ≠ (10 : UInt8) := by
      intro c hc
      rcases List.mem_append.1 hc with h | h
      · simp at h; subst h; decide
      · exact hw x (by simp) c h
    have ih' := ih (fun y hy => hw y (by simp [hy]))
    rw [foldW]
    split
    · refine ih' false _ (by simp) (fun c hc => ?_)
      rcases List.mem_append.1 hc with h | h
      · exact h2 c h
      · exact hx c h
    · exact (NoEmpt.line h1 h2).append (ih' false _ (by simp) hx)
theorem vis_ne10 {c : UInt8} (h : isVisible (num c) = true) : c ≠ 10 := by rintro rfl; revert h; decide
theorem noEmpt_fold {f : Fd} (hg : GoodF f) : NoEmpt (foldF f.1 f.2) := by
  obtain ⟨ws, hb, hp⟩ := hg.body
  obtain ⟨n1, n2, n3⟩ := name_bytes hg.name
  unfold foldF
  rw [hb, words_joinSp ws hp]
  refine noEmpt_foldW ws (fun x hx c hc => vis_ne10 ((hp x hx).vis c hc)) true _ (by simp) (fun c hc => ?_)
  rcases List.mem_append.1 hc with h | h
  · exact vis_ne10 (n3 c h).1
  · simp at h; subst h; decide
theorem noEmpt_folds (l : List Fd) (hg : ∀ f ∈ l, GoodF f) : NoEmpt (l.flatMap fun f => foldF f.1 f.2) := by
  induction l with
  | nil => exact NoEmpt.nil
  | cons f r ih => rw [List.flatMap_cons]; exact (noEmpt_fold (hg f (by simp))).append (ih fun g h => hg g (by simp [h]))
theorem newF_app {T b : List UInt8} (h : NoEmpt T) : newF (T ++ 10 :: b) = (T, (T.length : Int) + 1) := by
  have hT : (T ++ 10 :: b)[T.length]? = some 10 := by rw [List.getElem?_append_right (Nat.le_refl _)]; simp
  have hE : Empt (T ++ 10 :: b) 0 T.length := by
    refine ⟨hT, ?_⟩
    rcases h.last with g | g
    · exact .inl (by rw [g]; rfl)
    · by_cases hn : T = []
      · exact .inl (by rw [hn]; rfl)
      · have : 0 < T.length := List.length_pos_iff.2 hn
        exact .inr (by rw [List.getElem?_append_left (by omega)]; exact g)
  have hno : ∀ j, j < T.length → ¬ Empt (T ++ 10 :: b) 0 j := by
    rintro j hj ⟨e1, e2⟩
    rw [List.getElem?_append_left hj] at e1
    obtain ⟨p1, p2⟩ := h.no j e1
    rcases e2 with e2 | e2
    · omega
    · rw [List.getElem?_append_left (by omega)] at e2; exact p2 e2
  rw [newF_hd]
  have hh : hdF (T ++ 10 :: b) = some (T.length, T.length) := by
    unfold hdF spans
    rcases hd_go (T ++ 10 :: b) ((T ++ 10 :: b).length + 1) 0 (by omega) with ⟨h1, h2⟩ | ⟨k, h1, h2, h3, h4⟩
    · exact absurd hE (h2 _ (Nat.zero_le _))
    · have : k = T.length := by
        rcases Nat.lt_trichotomy k T.length with g | g | g
        · exact absurd h3 (hno k g)
        · exact g
        · exact absurd hE (h4 _ (Nat.zero_le _) g)
      rw [h1, this]
  rw [hh]; simp
/-- What was printed is parsed again. -/
theorem par_pri (fs : List Fd) (b : List UInt8) (h : (priF fs b).2 = 0) : parF (priF fs b).1 = ⟨fs, b, 0, 0⟩ := by
  unfold priF at h ⊢
  by_cases h1 : (printF fs).2 = 0
  · rw [if_neg (by simp [h1])] at h ⊢
    by_cases h2 : (bodyF b).2 = 0
    · rw [if_neg (by simp [h2])] at h ⊢
      by_cases h3 : 65536 < (printF fs).1.length + 1 + b.length
      · rw [if_pos h3] at h; simp at h
      · rw [if_neg h3]
        have hg := (printF_ok fs h1)
        have hn : NoEmpt (printF fs).1 := by rw [hg.2.2.1]; exact noEmpt_folds fs hg.1
        have hp := parse_printF fs h1
        simp only
        generalize (printF fs).1 = T at *
        unfold parF
        rw [newF_app hn]
        simp only
        rw [hp, show ((T.length : Int) + 1).toNat = T.length + 1 from by omega]
        have hd : (T ++ 10 :: b).drop (T.length + 1) = b := by
          rw [List.drop_append, List.drop_of_length_le (by omega), show T.length + 1 - T.length = 1 from by omega]; rfl
        rw [hd, if_neg (by simp; omega), if_neg (by simp), if_neg (by omega), if_neg (by simp [h2])]
    · rw [if_pos h2] at h; exact absurd h h2
  · rw [if_pos h1] at h; exact absurd h h1
/-- Printing what was parsed succeeds, or the text is too long. -/
theorem pri_par (L : List UInt8) (hl : L.length ≤ 30000) (h : (parF L).e = 0) (h6 : (parF L).fields.length ≤ 64) : (priF (parF L).fields (parF L).body).2 = 0 ∨ (priF (parF L).fields (parF L).body).2 = 5 := by
  unfold parF at h h6 ⊢
  have hn := newF_le L
  split at h
  · simp at h
  · rename_i g1
    rw [if_neg g1] at h6 ⊢
    split at h
    · rename_i g2; exact absurd h g2
    · rename_i g2
      rw [if_neg g2] at h6 ⊢
      split at h
      · simp at h
      · rename_i g3
        rw [if_neg g3] at h6 ⊢
        split at h
        · rename_i g4; exact absurd h g4
        · rename_i g4
          rw [if_neg g4] at h6 ⊢
          simp only at h6 ⊢
          have g2' : (parseF (newF L).1).2.2 = 0 := by simpa using g2
          have g4' : (bodyF (L.drop (newF L).2.toNat)).2 = 0 := by simpa using g4
          rcases print_parsed (newF L).1 g2' h6 with p | ⟨p, q⟩
          · unfold priF
            rw [if_neg (by simp [p]), if_neg (by simp [g4'])]
            split
            · exact .inr rfl
            · exact .inl rfl
          · exfalso; have := hn.2.2; omega
end Go.Proofs.YtcohgjdijhogbaaGreat
