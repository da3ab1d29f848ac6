/- The rounds of FieldWidths on the lines of a folded field. No walk here. -/
import Derived.Test.YtaigbplfbfaghaaWidthP
namespace Go.Proofs.Ytaigbplfbfaghaa
set_option linter.unusedSimpArgs false
set_option linter.unusedVariables false

theorem lf_line {s X t : List UInt8} {a i : Nat} (hs : s.drop a = X ++ 10 :: t) (hX : ∀ c ∈ X, isLF c = false) (ha : a ≤ i) (hi : i < s.length) (hno : ∀ c ∈ cutL s a i, isLF c = false) (hc : isLF s[i] = true) :
    i = a + X.length ∧ cutL s a i = X ∧ s.drop (i + 1) = t := by
  have h1 : (s.drop a)[i - a]? = some s[i] := by rw [List.getElem?_drop, show a + (i - a) = i from by omega]; exact List.getElem?_eq_getElem hi
  have hlt : ¬ i - a < X.length := by
    intro h
    rw [hs, List.getElem?_append_left h, List.getElem?_eq_getElem h] at h1
    have := hX _ (List.getElem_mem h)
    simp only [Option.some.injEq] at h1
    rw [h1, hc] at this; cases this
  have hgt : ¬ X.length < i - a := by
    intro h
    have hm : (10 : UInt8) ∈ cutL s a i := by
      unfold cutL; rw [hs, List.take_append, List.mem_append]; right
      obtain ⟨m, hm⟩ : ∃ m, i - a - X.length = m + 1 := ⟨i - a - X.length - 1, by omega⟩
      rw [hm]; simp
    have := hno _ hm
    cases this
  have e : i = a + X.length := by omega
  refine ⟨e, ?_, ?_⟩
  · unfold cutL; rw [hs, show i - a = X.length from by omega]; simp
  · have : s.drop (i + 1) = (s.drop a).drop (X.length + 1) := by rw [List.drop_drop]; congr 1; omega
    rw [this, hs]; simp

/-- What holds at the head of a round. -/
structure WInv (n s : List UInt8) (a before i : Nat) : Prop where
  le : a ≤ i
  top : i ≤ s.length
  noLF : ∀ c ∈ cutL s a i, isLF c = false
  bef : before ≤ i
  st : (a = 0 ∧ before = 0) ∨ (0 < a ∧ GoodTail before (s.drop a))

/-- The whole text is one of a valid field. -/
def Folded (n s : List UInt8) : Prop := ∃ fit t, s = (n ++ [58]) ++ spaced fit ++ 10 :: t ∧ (∀ c ∈ n, isLF c = false) ∧ (∀ y ∈ fit, Proper y) ∧ (78 < ((n ++ [58]) ++ spaced fit).length → fit.length ≤ 1) ∧ GoodTail ((n ++ [58]) ++ spaced fit).length t

theorem WInv.start (n s : List UInt8) : WInv n s 0 0 0 := ⟨by omega, by omega, by simp [cutL], by omega, .inl ⟨rfl, rfl⟩⟩
theorem cutL_snoc (s : List UInt8) (a i : Nat) (h : a ≤ i) (hi : i < s.length) : cutL s a (i + 1) = cutL s a i ++ [s[i]] := by
  unfold cutL
  rw [show i + 1 - a = (i - a) + 1 from by omega, List.take_succ_eq_append_getElem (by simp; omega)]
  simp [show a + (i - a) = i from by omega]
theorem WInv.skip {n s : List UInt8} {a before i : Nat} (h : WInv n s a before i) (hi : i < s.length) (hc : isLF s[i] = false) : WInv n s a before (i + 1) := by
  refine ⟨by have := h.le; omega, by omega, fun c hm => ?_, by have := h.bef; omega, h.st⟩
  rw [cutL_snoc s a i h.le hi] at hm
  rcases List.mem_append.1 hm with hm | hm
  · exact h.noLF c hm
  · simp at hm; subst hm; exact hc
theorem WInv.first {n s : List UInt8} {before i : Nat} (hF : Folded n s) (h : WInv n s 0 before i) (hi : i < s.length) (hc : isLF s[i] = true) :
    n.length + 1 ≤ i ∧ ¬ (78 < i ∧ 1 < (words ((cutL s 0 i).drop (n.length + 1))).length) ∧ WInv n s (i + 1) i (i + 1) := by
  obtain ⟨fit, t, hs, hn, hf, hw, ht⟩ := hF
  obtain ⟨e1, e2, e3⟩ := lf_line (a := 0) (X := (n ++ [58]) ++ spaced fit) (t := t) (by rw [List.drop_zero]; exact hs) (fun c hm => by
    rcases List.mem_append.1 hm with hm | hm
    · rcases List.mem_append.1 hm with hm | hm
      · exact hn c hm
      · simp at hm; subst hm; rfl
    · exact spaced_noLF fit hf c hm) (by omega) hi h.noLF hc
  have hl : i = ((n ++ [58]) ++ spaced fit).length := by omega
  refine ⟨by rw [hl]; simp, ?_, ⟨by omega, by omega, by simp [cutL], by omega, .inr ⟨by omega, ?_⟩⟩⟩
  · rw [e2]
    have : ((n ++ [58]) ++ spaced fit).drop (n.length + 1) = spaced fit := by
      rw [show n.length + 1 = (n ++ [58]).length from by simp]; exact List.drop_left
    rw [this, words_spaced fit hf]
    rintro ⟨q1, q2⟩
    have := hw (by omega); omega
  · rw [e3, hl]; exact ht
theorem WInv.later {n s : List UInt8} {a before i : Nat} (h : WInv n s a before i) (ha : 0 < a) (hi : i < s.length) (hc : isLF s[i] = true) :
    ∃ x fit, words (cutL s a i) = x :: fit ∧ ¬ (78 < i - a ∧ 1 < (x :: fit).length) ∧ 78 < before + 1 + x.length ∧ x.length ≤ 900 ∧ a < i ∧ (cutL s a i)[0]? = some 32 ∧ WInv n s (i + 1) (i - a) (i + 1) := by
  obtain ⟨h1, h2⟩ := h.st.resolve_left (by omega)
  generalize hd : s.drop a = d at h2
  cases h2 with
  | nil => have h5 := congrArg List.length hd; have h6 := h.le; have h7 := h.top; simp at h5; omega
  | line _ x fit t hx hf hw hb ht =>
    have hp : ∀ y ∈ x :: fit, Proper y := fun y hy => by
      rcases List.mem_cons.1 hy with rfl | hy
      · exact hx
      · exact hf y hy
    obtain ⟨e1, e2, e3⟩ := lf_line hd (spaced_noLF (x :: fit) hp) h.le hi h.noLF hc
    have hpos : 0 < (spaced (x :: fit)).length := by simp [spaced]
    refine ⟨x, fit, by rw [e2]; exact words_spaced _ hp, ?_, hb, hx.len, by omega, by rw [e2]; rfl, ⟨by omega, by omega, by simp [cutL], by omega, .inr ⟨by omega, ?_⟩⟩⟩
    · rintro ⟨q1, q2⟩
      have := hw (by omega)
      subst this; simp at q2
    · rw [e3, show i - a = (spaced (x :: fit)).length from by omega]; exact ht
theorem WInv.done {n s : List UInt8} {a before : Nat} (hF : Folded n s) (h : WInv n s a before s.length) : a = s.length := by
  have hcut : cutL s a s.length = s.drop a := by unfold cutL; rw [List.take_of_length_le (by simp)]
  have hno := h.noLF
  rw [hcut] at hno
  rcases h.st with ⟨rfl, _⟩ | ⟨h1, h2⟩
  · obtain ⟨fit, t, hs, _⟩ := hF
    have := hno 10 (by rw [List.drop_zero, hs]; simp)
    cases this
  · generalize hd : s.drop a = d at h2 hno
    cases h2 with
    | nil => have h5 := congrArg List.length hd; have h6 := h.le; have h7 := h.top; simp at h5; omega
    | line _ x fit t => have := hno 10 (by simp); cases this

theorem valid_noLF (n : List UInt8) (h : validName n = true) : ∀ c ∈ n, isLF c = false := by
  intro c hc
  cases n with
  | nil => cases hc
  | cons d r =>
    simp only [validName, Bool.and_eq_true, Bool.not_eq_true', List.any_eq_false] at h
    exact vis_noLF (name_byte (by simpa using h.2 c hc)).1
theorem isLF_num (c : UInt8) : isLF c = (num c == 10) := by
  unfold isLF num
  rw [Bool.eq_iff_iff, beq_iff_eq, beq_iff_eq]
  refine ⟨fun h => by subst h; rfl, fun h => UInt8.toNat_inj.1 ?_⟩
  have : c.toNat = 10 := by omega
  rw [this]; rfl

theorem folded_of (n b : List UInt8) (h : checkF n b = 0) : Folded n (foldF n b) := by
  have hg := check_good n b h
  obtain ⟨fit, t, h1, h2, h3, h4⟩ := fold_lines n b hg
  exact ⟨fit, t, h1, valid_noLF n hg.name, h2, h3, h4⟩

end Go.Proofs.Ytaigbplfbfaghaa
