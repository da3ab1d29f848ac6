/- Plain: a rule with not, and the rule without it. -/
import Derived.Test.YtannhfnpigiggaaGreatDoorPs35
namespace Go.Proofs.YtannhfnpigiggaaGreatDoor
set_option linter.unusedSimpArgs false
set_option linter.unusedVariables false

/-- The two beginnings. -/
def pA : Bs := [119, 97, 116, 99, 104, 32, 105, 102, 32]
def pB : Bs := [119, 97, 116, 99, 104, 32, 105, 102, 32, 110, 111, 116, 32, 40]
def tkW (w : Bs) (col : Nat) : Tok := ⟨1, w, 0, col⟩
theorem tok_watch (X : Bs) (col : Nat) : tokT (119 :: 97 :: 116 :: 99 :: 104 :: 32 :: X) col = .ok (tkW wWatch col, 5) := rfl
theorem tok_if (X : Bs) (col : Nat) : tokT (105 :: 102 :: 32 :: X) col = .ok (tkW wIf col, 2) := rfl
theorem tok_not (X : Bs) (col : Nat) : tokT (110 :: 111 :: 116 :: 32 :: X) col = .ok (tkW wNot col, 3) := rfl
theorem tok_lp (X : Bs) (col : Nat) : tokT (40 :: X) col = .ok (⟨4, yLp, 0, col⟩, 1) := rfl
theorem tok_rp (X : Bs) (col : Nat) : tokT (41 :: X) col = .ok (⟨4, yRp, 0, col⟩, 1) := rfl
theorem toks_pA (C : Bs) (l : List Tok) (h : toksG (C.length + 1) C 9 = .ok l) : toksF (pA ++ C) = .ok (tkW wWatch 1 :: tkW wIf 7 :: l) := by
  unfold toksF
  rw [show (pA ++ C).length + 1 = 9 + C.length + 1 from by simp only [pA, List.length_append, List.length_cons, List.length_nil]]
  show toksG (9 + C.length + 1) (119 :: 97 :: 116 :: 99 :: 104 :: 32 :: (105 :: 102 :: 32 :: C)) 0 = _
  refine (toksG_step (g := 9 + C.length) rfl (tok_watch _ 1) (lx := tkW wIf 7 :: l) ?_).trans rfl
  show toksG (9 + C.length) (32 :: (105 :: 102 :: 32 :: C)) 5 = _
  rw [show 9 + C.length = (C.length + 8) + 1 from by omega, toksG_blank rfl]
  rw [show C.length + 8 = (C.length + 7) + 1 from by omega]
  refine (toksG_step (g := C.length + 7) rfl (tok_if _ 7) (lx := l) ?_).trans rfl
  show toksG (C.length + 7) (32 :: C) 8 = _
  rw [show C.length + 7 = (C.length + 6) + 1 from by omega, toksG_blank rfl]
  rw [toksG_fuel _ (C.length + 1) _ _ (by omega) (by omega)]; exact h
theorem toks_pA_of (C : Bs) (l : List Tok) (h : toksF (pA ++ C) = .ok l) : ∃ l2, toksG (C.length + 1) C 9 = .ok l2 ∧ l = tkW wWatch 1 :: tkW wIf 7 :: l2 := by
  rcases hc : toksG (C.length + 1) C 9 with f | l2
  · exfalso
    have : ∀ x, toksF (pA ++ C) ≠ .ok x := by
      intro x hx
      unfold toksF at hx
      rw [show (pA ++ C).length + 1 = (C.length + 9) + 1 from by simp only [pA, List.length_append, List.length_cons, List.length_nil]; omega] at hx
      rw [show pA ++ C = 119 :: 97 :: 116 :: 99 :: 104 :: 32 :: (105 :: 102 :: 32 :: C) from rfl] at hx
      unfold toksG at hx
      rw [tok_watch] at hx
      simp only [show blkS 119 = false from rfl, Bool.false_eq_true, if_false] at hx
      rw [show List.drop 5 (119 :: 97 :: 116 :: 99 :: 104 :: 32 :: (105 :: 102 :: 32 :: C)) = 32 :: (105 :: 102 :: 32 :: C) from rfl] at hx
      rw [show C.length + 9 = (C.length + 8) + 1 from by omega, toksG_blank rfl] at hx
      rw [show C.length + 8 = (C.length + 7) + 1 from by omega] at hx
      unfold toksG at hx
      rw [tok_if] at hx
      simp only [show blkS 105 = false from rfl, Bool.false_eq_true, if_false] at hx
      rw [show List.drop 2 (105 :: 102 :: 32 :: C) = 32 :: C from rfl] at hx
      rw [show C.length + 7 = (C.length + 6) + 1 from by omega, toksG_blank rfl] at hx
      rw [toksG_fuel _ (C.length + 1) _ _ (by omega) (by omega)] at hx
      rw [show 0 + 5 + 1 + 2 + 1 = 9 from rfl, hc] at hx
      cases hx
    exact this l h
  · have := toks_pA C l2 hc
    rw [h] at this
    injection this with this
    exact ⟨l2, rfl, this⟩
theorem toks_pB (D : Bs) (l : List Tok) (h : toksG (D.length + 1) D 14 = .ok l) : toksF (pB ++ D) = .ok (tkW wWatch 1 :: tkW wIf 7 :: tkW wNot 10 :: ⟨4, yLp, 0, 14⟩ :: l) := by
  have e : pB ++ D = pA ++ (110 :: 111 :: 116 :: 32 :: 40 :: D) := rfl
  rw [e]
  refine toks_pA _ _ ?_
  rw [show (110 :: 111 :: 116 :: 32 :: 40 :: D : Bs).length + 1 = (D.length + 5) + 1 from by simp]
  refine (toksG_step (g := D.length + 5) rfl (tok_not _ 10) (lx := ⟨4, yLp, 0, 14⟩ :: l) ?_).trans rfl
  show toksG (D.length + 5) (32 :: 40 :: D) 12 = _
  rw [show D.length + 5 = (D.length + 4) + 1 from by omega, toksG_blank rfl]
  rw [show D.length + 4 = (D.length + 3) + 1 from by omega]
  refine (toksG_step (g := D.length + 3) rfl (tok_lp _ 14) (lx := l) ?_).trans rfl
  show toksG (D.length + 3) D 14 = _
  rw [toksG_fuel _ (D.length + 1) _ _ (by omega) (by omega)]; exact h
theorem rule_watch (ts : List Tok) : ruleF (tkW wWatch 1 :: tkW wIf 7 :: ts) = bindE (condF 32 ts) fun c => if endT c.2 then .ok ⟨wWatch, 0, none, some c.1⟩ else .error (colT c.2, 29) := by
  have h1 : oneF actsL (tkW wWatch 1 :: tkW wIf 7 :: ts) = .ok (wWatch, tkW wIf 7 :: ts) := rfl
  have h2 : ∀ us, amtF wWatch us = .ok (0, us) := fun us => rfl
  have h3 : tilF (tkW wIf 7 :: ts) = .ok (none, tkW wIf 7 :: ts) := rfl
  have h4 : ifF (tkW wIf 7 :: ts) = bindE (condF 32 ts) fun c => .ok (some c.1, c.2) := rfl
  unfold ruleF
  rw [bindE_is h1]; simp only
  rw [bindE_is (h2 _)]; simp only
  rw [bindE_is h3]; simp only
  rw [h4]
  cases condF 32 ts with
  | error f => rfl
  | ok c => rfl
/-- What a line 'watch if ..' holds. -/
theorem line_pA {C : Bs} {n : Nat} {r : RuleS} (h : lineF (pA ++ C) n = .ok r) : ∃ l0 e c, toksG (C.length + 1) C 9 = .ok (l0 ++ [e]) ∧ e.kind = 0 ∧ (∀ x ∈ l0, x.kind ≠ 0) ∧ condF 32 (l0 ++ [e]) = .ok (c, [e]) ∧ r = ⟨wWatch, 0, none, some c⟩ := by
  obtain ⟨_, ts, h1, h2⟩ := lineF_ok h
  obtain ⟨l2, h3, rfl⟩ := toks_pA_of C ts h1
  obtain ⟨l0, e, e1, e2, e3, _⟩ := toksG_app dlm_nil _ _ _ _ (by omega) h3
  subst e1
  rw [rule_watch] at h2
  obtain ⟨c, h4, h5⟩ := bindE_ok h2
  split at h5
  · rename_i he
    injection h5 with h5
    obtain ⟨_, t, pre, g1, g2, _⟩ := cond_loc 32 _ _ h4
    have hr : c.2 = [e] := by
      rcases List.eq_nil_or_concat c.2 with hn | ⟨ys, y, hy⟩
      · rw [hn, List.append_nil] at g1
        have : e ∈ t :: pre := by rw [← g1]; simp
        exact absurd e2 (g2 e this)
      · rw [List.concat_eq_append] at hy
        rw [hy, ← List.cons_append, ← List.append_assoc] at g1
        have hlast := List.append_inj_right' g1 rfl
        have hinit := List.append_inj_left' g1 rfl
        injection hlast with hlast _
        subst hlast
        rw [hy]
        cases ys with
        | nil => rfl
        | cons z zs =>
          rw [hy] at he
          have hz : z.kind = 0 := by simpa [endT] using he
          exact absurd hz (e3 z (by rw [hinit]; simp))
    refine ⟨l0, e, c.1, h3, e2, e3, ?_, h5.symm⟩
    rw [h4, ← hr]
  · cases h5
theorem isNl_pA : ∀ c ∈ pA, isNl c = false := by decide
theorem isNl_pB : ∀ c ∈ pB, isNl c = false := by decide
/-- Where a text first breaks. -/
theorem nl_cases (C : Bs) : (∀ c ∈ C, isNl c = false) ∨ ∃ x r, C = x ++ 10 :: r ∧ ∀ c ∈ x, isNl c = false := by
  induction C with
  | nil => exact .inl (by simp)
  | cons c r ih =>
    by_cases hc : isNl c = true
    · have : c = 10 := by simpa [isNl] using hc
      subst this
      exact .inr ⟨[], r, rfl, by simp⟩
    · have hc : isNl c = false := by simpa using hc
      rcases ih with h | ⟨x, r', rfl, h⟩
      · exact .inl (fun d hd => by rcases List.mem_cons.1 hd with rfl | hd; exact hc; exact h d hd)
      · exact .inr ⟨c :: x, r', rfl, fun d hd => by rcases List.mem_cons.1 hd with rfl | hd; exact hc; exact h d hd⟩
theorem idle_pA (C : Bs) : idleF (pA ++ C) = false := rfl
theorem idle_pB (C : Bs) : idleF (pB ++ C) = false := rfl
theorem rules_first {x : Bs} {r : List Bs} {i n : Nat} {l : List RuleS} (hx : idleF x = false) (h : rulesG (x :: r) i n = .ok l) : ∃ a l2, lineF x n = .ok a ∧ rulesG r (i + 1) (n + 1) = .ok l2 ∧ l = a :: l2 := by
  unfold rulesG at h
  rw [if_neg (by simp [hx])] at h
  split at h
  · cases h
  · rename_i a ha
    split at h
    · cases h
    · rename_i l2 hl2
      injection h with h
      exact ⟨a, l2, ha, hl2, h.symm⟩
theorem not_first (k : Nat) (r : List Tok) : isT wNot (tkW wNot k :: r) = true := rfl
theorem lp_first (k : Nat) (r : List Tok) : isT yLp (⟨4, yLp, 0, k⟩ :: r) = true := rfl
theorem lp_not (k : Nat) (r : List Tok) : isT wNot (⟨4, yLp, 0, k⟩ :: r) = false := rfl
/-- Both rules, where the condition stands alone. -/
theorem two_rules {C : Bs} {n m : Nat} {ra rb : RuleS} (ha : lineF (pA ++ C) n = .ok ra) (hb : lineF (pB ++ (C ++ [41])) m = .ok rb) : ∃ c, ra = ⟨wWatch, 0, none, some c⟩ ∧ rb = ⟨wWatch, 0, none, some (.neg c)⟩ := by
  obtain ⟨l0, e, c, h1, h2, h3, h4, rfl⟩ := line_pA ha
  refine ⟨c, rfl, ?_⟩
  obtain ⟨l0', e', f1, _, _, f4⟩ := toksG_app (dlm_rp []) _ _ _ _ (by omega) h1
  obtain ⟨rfl, he⟩ := List.append_inj' f1 rfl
  obtain ⟨l1, f5, f6⟩ := f4 ((C ++ [41]).length + 1) 14 (by omega)
  have f7 : toksG (([41] : Bs).length + 1) [41] (14 + C.length) = .ok [⟨4, yRp, 0, 14 + C.length + 1⟩, ⟨0, [], 0, 14 + C.length + 1 + 1⟩] := by
    refine (toksG_step (g := 1) rfl (tok_rp [] _) (lx := [⟨0, [], 0, 14 + C.length + 1 + 1⟩]) rfl).trans rfl
  have f8 := toks_pB _ _ (f6 _ f7)
  generalize 14 + C.length + 1 = k at f8
  obtain ⟨_, ts, h5, h6⟩ := lineF_ok hb
  rw [f8] at h5
  injection h5 with h5
  subst h5
  rw [rule_watch] at h6
  obtain ⟨d, h7, h8⟩ := bindE_ok h6
  split at h8
  · injection h8 with h8
    -- the condition of the second rule
    unfold condF orF listC at h7
    obtain ⟨x, h9, h7⟩ := bindE_ok h7
    obtain ⟨y, h10, h7⟩ := bindE_ok h7
    injection h7 with h7
    unfold bothF listC at h9
    obtain ⟨x2, h11, h9⟩ := bindE_ok h9
    obtain ⟨y2, h12, h9⟩ := bindE_ok h9
    injection h9 with h9
    unfold singleF at h11
    rw [if_neg (by rw [not_first]; simp)] at h11
    simp only at h11
    rw [if_pos (by rfl)] at h11
    obtain ⟨x3, h13, h11⟩ := bindE_ok h11
    injection h11 with h11
    rw [List.tail_cons] at h13
    unfold singleF at h13
    rw [if_neg (by rw [lp_not, lp_first]; simp)] at h13
    simp only at h13
    rw [if_neg (by rw [lp_not]; simp)] at h13
    obtain ⟨x4, h14, h13⟩ := bindE_ok h13
    obtain ⟨x5, h15, h13⟩ := bindE_ok h13
    injection h13 with h13
    rw [List.tail_cons] at h14
    have h16 := cond_mon (m := 30) (n := 32) (by omega) _ _ h14
    obtain ⟨_, t, pre, g1, g2, g3⟩ := cond_loc 32 _ _ h4
    have g4 : l0 = t :: pre := by
      simp only at g1
      rw [← List.cons_append] at g1
      exact (List.append_inj' g1 rfl).1
    have h17 := g3 l1 [⟨4, yRp, 0, k⟩, ⟨0, [], 0, k + 1⟩] (by rw [f5, g4]) (stopO_rp rfl)
    have h18 : x4 = (c, [⟨4, yRp, 0, k⟩, ⟨0, [], 0, k + 1⟩]) := by
      have : (Except.ok x4 : Except Fl _) = .ok (c, [⟨4, yRp, 0, k⟩, ⟨0, [], 0, k + 1⟩]) := h16.symm.trans h17
      injection this
    subst h18
    have h19 : x5 = (yRp, [⟨0, [], 0, k + 1⟩]) := by
      have : (Except.ok x5 : Except Fl _) = .ok (yRp, [⟨0, [], 0, k + 1⟩]) := h15.symm.trans rfl
      injection this
    subst h19
    subst h13
    subst h11
    have h20 : y2 = ([], [⟨0, [], 0, k + 1⟩]) := by
      have : (Except.ok y2 : Except Fl _) = .ok ([], [⟨0, [], 0, k + 1⟩]) := h12.symm.trans rfl
      injection this
    subst h20
    subst h9
    have h21 : y = ([], [⟨0, [], 0, k + 1⟩]) := by
      have : (Except.ok y : Except Fl _) = .ok ([], [⟨0, [], 0, k + 1⟩]) := h10.symm.trans rfl
      injection this
    subst h21
    subst h7
    rw [← h8]
    rfl
  · cases h8
/-- Where the condition breaks over lines, one of both is no text of rules. -/
theorem two_broken {C : Bs} {n m : Nat} {ra rb : RuleS} (ha : lineF (pA ++ C) n = .ok ra) (hb : lineF (pB ++ C) m = .ok rb) : False := by
  obtain ⟨l0, e, c, h1, h2, h3, h4, rfl⟩ := line_pA ha
  obtain ⟨l0', e', f1, _, _, f4⟩ := toksG_app dlm_nil _ _ _ _ (by omega) h1
  obtain ⟨rfl, he⟩ := List.append_inj' f1 rfl
  obtain ⟨l1, f5, f6⟩ := f4 (C.length + 1) 14 (by simp)
  have f7 : toksG (([] : Bs).length + 1) [] (14 + C.length) = .ok [⟨0, [], 0, 14 + C.length + 1⟩] := rfl
  have f8 := toks_pB C _ (by have := f6 _ f7; rwa [List.append_nil] at this)
  generalize 14 + C.length + 1 = k at f8
  obtain ⟨_, ts, h5, h6⟩ := lineF_ok hb
  rw [f8] at h5
  injection h5 with h5
  subst h5
  rw [rule_watch] at h6
  obtain ⟨d, h7, h8⟩ := bindE_ok h6
  unfold condF orF listC at h7
  obtain ⟨x, h9, h7⟩ := bindE_ok h7
  unfold bothF listC at h9
  obtain ⟨x2, h11, h9⟩ := bindE_ok h9
  unfold singleF at h11
  rw [if_neg (by rw [not_first]; simp)] at h11
  simp only at h11
  rw [if_pos (by rfl)] at h11
  obtain ⟨x3, h13, h11⟩ := bindE_ok h11
  rw [List.tail_cons] at h13
  unfold singleF at h13
  rw [if_neg (by rw [lp_not, lp_first]; simp)] at h13
  simp only at h13
  rw [if_neg (by rw [lp_not]; simp)] at h13
  obtain ⟨x4, h14, h13⟩ := bindE_ok h13
  obtain ⟨x5, h15, h13⟩ := bindE_ok h13
  rw [List.tail_cons] at h14
  have h16 := cond_mon (m := 30) (n := 32) (by omega) _ _ h14
  obtain ⟨_, t, pre, g1, g2, g3⟩ := cond_loc 32 _ _ h4
  have g4 : l0 = t :: pre := by
    simp only at g1
    rw [← List.cons_append] at g1
    exact (List.append_inj' g1 rfl).1
  have h17 := g3 l1 [⟨0, [], 0, k⟩] (by rw [f5, g4]) ⟨rfl, rfl, trivial⟩
  have h18 : x4 = (c, [⟨0, [], 0, k⟩]) := by
    have : (Except.ok x4 : Except Fl _) = .ok (c, [⟨0, [], 0, k⟩]) := h16.symm.trans h17
    injection this
  subst h18
  cases h15
theorem not_law {C : Bs} {la lb : List RuleS} (ha : parseG (pA ++ C) = .ok la) (hb : parseG (pB ++ (C ++ [41])) = .ok lb) (h1 : la.length = 1) (h2 : lb.length = 1) :
    ∃ c, la = [⟨wWatch, 0, none, some c⟩] ∧ lb = [⟨wWatch, 0, none, some (.neg c)⟩] := by
  unfold parseG at ha hb
  split at ha
  · cases ha
  split at hb
  · cases hb
  rcases nl_cases C with hC | ⟨C1, C2, rfl, hC⟩
  · rw [lines_none (pA ++ C) (fun c hc => (List.mem_append.1 hc).elim (isNl_pA c) (hC c))] at ha
    rw [lines_none (pB ++ (C ++ [41])) (fun c hc => (List.mem_append.1 hc).elim (isNl_pB c) (fun hc => (List.mem_append.1 hc).elim (hC c) (fun hc => by simp at hc; subst hc; rfl)))] at hb
    obtain ⟨ra, l2, a1, a2, rfl⟩ := rules_first (idle_pA C) ha
    obtain ⟨rb, m2, b1, b2, rfl⟩ := rules_first (idle_pB _) hb
    cases a2
    cases b2
    obtain ⟨c, rfl, rfl⟩ := two_rules a1 b1
    exact ⟨c, rfl, rfl⟩
  · exfalso
    rw [show pA ++ (C1 ++ 10 :: C2) = (pA ++ C1) ++ 10 :: C2 from by simp, lines_some (pA ++ C1) C2 (fun c hc => (List.mem_append.1 hc).elim (isNl_pA c) (hC c))] at ha
    rw [show pB ++ ((C1 ++ 10 :: C2) ++ [41]) = (pB ++ C1) ++ 10 :: (C2 ++ [41]) from by simp, lines_some (pB ++ C1) (C2 ++ [41]) (fun c hc => (List.mem_append.1 hc).elim (isNl_pB c) (hC c))] at hb
    obtain ⟨ra, l2, a1, a2, rfl⟩ := rules_first (idle_pA C1) ha
    obtain ⟨rb, m2, b1, b2, rfl⟩ := rules_first (idle_pB C1) hb
    exact two_broken a1 b1
theorem not_rates {c : Cond} (x : InS) : (rateF [⟨wWatch, 0, none, some c⟩] x).watched = !(rateF [⟨wWatch, 0, none, some (.neg c)⟩] x).watched := by
  cases h : holdsF x c <;> simp [rateF, rateG, appS, holdsF, h, wWatch, yPlus, yMinus, yEq, wKill]
end Go.Proofs.YtannhfnpigiggaaGreatDoor
