/- Plain: what patterns match. No program here. -/
import Derived.Test.YtcknomaaikeebaaDoorWmP
namespace Go.Proofs.YtcknomaaikeebaaDoor
set_option linter.unusedSimpArgs false
set_option linter.unusedVariables false

def starM (f : Bs → Bool) : Bs → Bool
  | [] => f []
  | c :: r => f (c :: r) || (isChar c && starM f r)
def oneM (cs : Bs) (f : Bs → Bool) : Bs → Bool
  | [] => false
  | c :: r => cs.contains c && f r
/-- Whether elements match a text. -/
def matchF : List Em → Bs → Bool
  | [] => fun l => l.isEmpty
  | e :: es => if e.isStar then starM (matchF es) else oneM e.chars (matchF es)
def Chars (l : Bs) : Prop := ∀ c ∈ l, isChar c = true
theorem starM_iff (f : Bs → Bool) (l : Bs) : starM f l = true ↔ ∃ u v, l = u ++ v ∧ Chars u ∧ f v = true := by
  induction l with
  | nil =>
    constructor
    · intro h; exact ⟨[], [], rfl, by simp [Chars], h⟩
    · rintro ⟨u, v, h, _, hf⟩
      have : u = [] ∧ v = [] := by simpa using h.symm
      rw [this.2] at hf; exact hf
  | cons c r ih =>
    rw [starM, Bool.or_eq_true, Bool.and_eq_true, ih]
    constructor
    · rintro (h | ⟨hc, u, v, rfl, hu, hf⟩)
      · exact ⟨[], c :: r, rfl, by simp [Chars], h⟩
      · exact ⟨c :: u, v, rfl, by simpa [Chars, hc] using hu, hf⟩
    · rintro ⟨u, v, h, hu, hf⟩
      cases u with
      | nil => left; simp at h; rw [h]; exact hf
      | cons a u =>
        simp at h
        obtain ⟨rfl, rfl⟩ := h
        right
        exact ⟨hu c (by simp), u, v, rfl, fun x hx => hu x (by simp [hx]), hf⟩
theorem oneM_iff (cs : Bs) (f : Bs → Bool) (l : Bs) : oneM cs f l = true ↔ ∃ c r, l = c :: r ∧ c ∈ cs ∧ f r = true := by
  cases l with
  | nil => simp [oneM]
  | cons c r =>
    simp only [oneM, Bool.and_eq_true, List.contains_iff_mem]
    constructor
    · rintro ⟨h1, h2⟩; exact ⟨c, r, rfl, h1, h2⟩
    · rintro ⟨c', r', h, h1, h2⟩
      simp at h; obtain ⟨rfl, rfl⟩ := h; exact ⟨h1, h2⟩
theorem snoc_ind {P : Bs → Prop} (h0 : P []) (hs : ∀ l c, P l → P (l ++ [c])) : ∀ l, P l := by
  suffices h : ∀ (n : Nat) (l : Bs), l.length = n → P l from fun l => h _ l rfl
  intro n
  induction n with
  | zero => intro l h; rw [List.eq_nil_of_length_eq_zero h]; exact h0
  | succ n ih =>
    intro l h
    rcases List.eq_nil_or_concat l with rfl | ⟨l, c, rfl⟩
    · exact h0
    · rw [List.concat_eq_append] at h ⊢
      exact hs l c (ih l (by simpa using h))
theorem matchF_append (a b : List Em) : ∀ l, matchF (a ++ b) l = true ↔ ∃ u v, l = u ++ v ∧ matchF a u = true ∧ matchF b v = true := by
  induction a with
  | nil =>
    intro l
    constructor
    · intro h; exact ⟨[], l, rfl, rfl, h⟩
    · rintro ⟨u, v, rfl, hu, hv⟩
      have : u = [] := by simpa [matchF] using hu
      subst this; exact hv
  | cons e es ih =>
    intro l
    by_cases he : e.isStar = true
    · simp only [List.cons_append, matchF, he, if_true, starM_iff]
      constructor
      · rintro ⟨u, v, rfl, hu, hv⟩
        obtain ⟨x, y, rfl, hx, hy⟩ := (ih v).1 hv
        exact ⟨u ++ x, y, by simp, ⟨u, x, rfl, hu, hx⟩, hy⟩
      · rintro ⟨u, v, rfl, ⟨x, y, rfl, hx, hy⟩, hv⟩
        exact ⟨x, y ++ v, by simp, hx, (ih _).2 ⟨y, v, rfl, hy, hv⟩⟩
    · have he' : e.isStar = false := by simpa using he
      simp only [List.cons_append, matchF, he', Bool.false_eq_true, if_false, oneM_iff]
      constructor
      · rintro ⟨c, r, rfl, hc, hr⟩
        obtain ⟨x, y, rfl, hx, hy⟩ := (ih r).1 hr
        exact ⟨c :: x, y, by simp, ⟨c, x, rfl, hc, hx⟩, hy⟩
      · rintro ⟨u, v, rfl, ⟨c, r, rfl, hc, hr⟩, hv⟩
        exact ⟨c, r ++ v, by simp, hc, (ih _).2 ⟨r, v, rfl, hr, hv⟩⟩
theorem matchF_star1 (e : Em) (he : e.isStar = true) (l : Bs) : matchF [e] l = true ↔ Chars l := by
  simp only [matchF, he, if_true, starM_iff]
  constructor
  · rintro ⟨u, v, rfl, hu, hv⟩
    have : v = [] := by simpa using hv
    subst this; simpa using hu
  · intro h; exact ⟨l, [], by simp, h, rfl⟩
theorem matchF_one1 (e : Em) (he : e.isStar = false) (l : Bs) : matchF [e] l = true ↔ ∃ c, l = [c] ∧ c ∈ e.chars := by
  simp only [matchF, he, Bool.false_eq_true, if_false, oneM_iff]
  constructor
  · rintro ⟨c, r, rfl, hc, hr⟩
    have : r = [] := by simpa using hr
    subst this; exact ⟨c, rfl, hc⟩
  · rintro ⟨c, rfl, hc⟩; exact ⟨c, [], rfl, hc, rfl⟩
theorem match_star_nil (es : List Em) (e : Em) (he : e.isStar = true) : matchF (es ++ [e]) [] = matchF es [] := by
  rw [Bool.eq_iff_iff, matchF_append]
  constructor
  · rintro ⟨u, v, h, hu, hv⟩
    have : u = [] ∧ v = [] := by simpa using h.symm
    rw [this.1] at hu; exact hu
  · intro h; exact ⟨[], [], rfl, h, (matchF_star1 e he _).2 (by simp [Chars])⟩
theorem match_star_snoc (es : List Em) (e : Em) (he : e.isStar = true) (l : Bs) (c : UInt8) : matchF (es ++ [e]) (l ++ [c]) = (matchF es (l ++ [c]) || (isChar c && matchF (es ++ [e]) l)) := by
  rw [Bool.eq_iff_iff, Bool.or_eq_true, Bool.and_eq_true, matchF_append, matchF_append]
  constructor
  · rintro ⟨u, v, h, hu, hv⟩
    rw [matchF_star1 e he] at hv
    rcases List.eq_nil_or_concat v with rfl | ⟨v, d, rfl⟩
    · left; simp at h; rw [h]; exact hu
    · right
      rw [List.concat_eq_append, ← List.append_assoc] at h
      have h1 := List.append_inj_left' h rfl
      have h2 := List.append_inj_right' h rfl
      simp at h2; subst h2
      exact ⟨hv c (by simp), u, v, h1, hu, (matchF_star1 e he _).2 (fun x hx => hv x (by simp [hx]))⟩
  · rintro (h | ⟨hc, u, v, rfl, hu, hv⟩)
    · exact ⟨l ++ [c], [], by simp, h, (matchF_star1 e he _).2 (by simp [Chars])⟩
    · refine ⟨u, v ++ [c], by simp, hu, (matchF_star1 e he _).2 ?_⟩
      rw [matchF_star1 e he] at hv
      intro x hx
      rcases List.mem_append.1 hx with hx | hx
      · exact hv x hx
      · simp at hx; subst hx; exact hc
theorem match_one_nil (es : List Em) (e : Em) (he : e.isStar = false) : matchF (es ++ [e]) [] = false := by
  rw [Bool.eq_false_iff, ne_eq, matchF_append]
  rintro ⟨u, v, h, hu, hv⟩
  obtain ⟨c, rfl, _⟩ := (matchF_one1 e he _).1 hv
  simp at h
theorem match_one_snoc (es : List Em) (e : Em) (he : e.isStar = false) (l : Bs) (c : UInt8) : matchF (es ++ [e]) (l ++ [c]) = (matchF es l && e.chars.contains c) := by
  rw [Bool.eq_iff_iff, Bool.and_eq_true, matchF_append, List.contains_iff_mem]
  constructor
  · rintro ⟨u, v, h, hu, hv⟩
    obtain ⟨d, rfl, hd⟩ := (matchF_one1 e he _).1 hv
    have h1 := List.append_inj_left' h rfl
    have h2 := List.append_inj_right' h rfl
    simp at h2; subst h1 h2
    exact ⟨hu, hd⟩
  · rintro ⟨h1, h2⟩
    exact ⟨l, [c], rfl, h1, (matchF_one1 e he _).2 ⟨c, rfl, h2⟩⟩
theorem match_nil_snoc (l : Bs) (c : UInt8) : matchF [] (l ++ [c]) = false := by simp [matchF]
/-- What is matched is made of name characters. -/
theorem matchF_chars (es : List Em) (hes : ∀ e ∈ es, e.Ok) : ∀ l, matchF es l = true → Chars l := by
  induction es with
  | nil => intro l h; have : l = [] := by simpa [matchF] using h
           subst this; simp [Chars]
  | cons e es ih =>
    intro l h
    have ih' := ih (fun e he => hes e (by simp [he]))
    by_cases he : e.isStar = true
    · simp only [matchF, he, if_true, starM_iff] at h
      obtain ⟨u, v, rfl, hu, hv⟩ := h
      intro x hx
      rcases List.mem_append.1 hx with hx | hx
      · exact hu x hx
      · exact ih' v hv x hx
    · have he' : e.isStar = false := by simpa using he
      simp only [matchF, he', Bool.false_eq_true, if_false, oneM_iff] at h
      obtain ⟨c, r, rfl, hc, hr⟩ := h
      intro x hx
      rcases List.mem_cons.1 hx with rfl | hx
      · exact (hes e (by simp)).char hc
      · exact ih' r hr x hx

/-! The program's way: marked positions. -/
def emAt (es : List Em) (k : Nat) : Em := es.getD k .single
def sprStep (es : List Em) (a : List Bool) (k : Nat) : List Bool := if a.getD k false && (emAt es k).isStar then a.set (k + 1) true else a
def spr (es : List Em) (m : List Bool) (k : Nat) : List Bool := (List.range k).foldl (sprStep es) m
theorem spr_zero (es : List Em) (m : List Bool) : spr es m 0 = m := rfl
theorem spr_succ (es : List Em) (m : List Bool) (k : Nat) : spr es m (k + 1) = sprStep es (spr es m k) k := by
  unfold spr; rw [List.range_succ, List.foldl_append]; rfl
theorem spr_length (es : List Em) (m : List Bool) (k : Nat) : (spr es m k).length = m.length := by
  induction k with
  | zero => rfl
  | succ k ih => rw [spr_succ, sprStep]; split <;> simp [ih]
def nxtStep (es : List Em) (m : List Bool) (c : UInt8) (a : List Bool) (k : Nat) : List Bool :=
  if !m.getD k false || !(emAt es k).chars.contains c then a else if (emAt es k).isStar then a.set k true else a.set (k + 1) true
def nxt (es : List Em) (m : List Bool) (c : UInt8) (k : Nat) : List Bool := (List.range k).foldl (nxtStep es m c) (List.replicate m.length false)
theorem nxt_zero (es : List Em) (m : List Bool) (c : UInt8) : nxt es m c 0 = List.replicate m.length false := rfl
theorem nxt_succ (es : List Em) (m : List Bool) (c : UInt8) (k : Nat) : nxt es m c (k + 1) = nxtStep es m c (nxt es m c k) k := by
  unfold nxt; rw [List.range_succ, List.foldl_append]; rfl
theorem nxt_length (es : List Em) (m : List Bool) (c : UInt8) (k : Nat) : (nxt es m c k).length = m.length := by
  induction k with
  | zero => simp [nxt_zero]
  | succ k ih => rw [nxt_succ, nxtStep]; split <;> (try split) <;> simp [ih]
/-- The marks behind a text. -/
def marks (es : List Em) (l : Bs) : List Bool := l.foldl (fun m c => spr es (nxt es m c es.length) es.length) (spr es (true :: List.replicate es.length false) es.length)
theorem marks_nil (es : List Em) : marks es [] = spr es (true :: List.replicate es.length false) es.length := rfl
theorem marks_snoc (es : List Em) (l : Bs) (c : UInt8) : marks es (l ++ [c]) = spr es (nxt es (marks es l) c es.length) es.length := by
  unfold marks; rw [List.foldl_append]; rfl
theorem marks_length (es : List Em) (l : Bs) : (marks es l).length = es.length + 1 := by
  induction l using snoc_ind with
  | h0 => rw [marks_nil, spr_length]; simp
  | hs l c ih => rw [marks_snoc, spr_length, nxt_length, ih]

theorem getD_set (a : List Bool) (k j : Nat) (h : k < a.length) : (a.set k true).getD j false = (decide (j = k) || a.getD j false) := by
  by_cases e : j = k
  · subst e; simp [List.getD, h]
  · have e' : ¬ k = j := fun h => e h.symm
    simp [List.getD, e, e', List.getElem?_set]
/-- What spreading marks. -/
def clo (es : List Em) (m : List Bool) : Nat → Bool
  | 0 => m.getD 0 false
  | k + 1 => m.getD (k + 1) false || (clo es m k && (emAt es k).isStar)
theorem spr_get (es : List Em) (m : List Bool) (hm : m.length = es.length + 1) : ∀ j, j ≤ es.length → ∀ k, (spr es m j).getD k false = if k ≤ j then clo es m k else m.getD k false := by
  intro j
  induction j with
  | zero =>
    intro _ k
    rw [spr_zero]
    by_cases hk : k = 0
    · subst hk; simp [clo]
    · rw [if_neg (by omega)]
  | succ j ih =>
    intro hj k
    have ih' := ih (by omega)
    rw [spr_succ, sprStep, ih' j, if_pos (Nat.le_refl _)]
    by_cases hs : (clo es m j && (emAt es j).isStar) = true
    · rw [if_pos hs, getD_set _ _ _ (by rw [spr_length]; omega), ih' k]
      by_cases hk : k = j + 1
      · subst hk; simp [clo, hs]
      · simp only [hk, decide_false, Bool.false_or]
        by_cases hk' : k ≤ j
        · rw [if_pos hk', if_pos (by omega)]
        · rw [if_neg hk', if_neg (by omega)]
    · rw [if_neg hs, ih' k]
      by_cases hk : k = j + 1
      · subst hk
        have hs' : (clo es m j && (emAt es j).isStar) = false := by simpa using hs
        rw [if_neg (by omega), if_pos (Nat.le_refl _), clo, hs', Bool.or_false]
      · by_cases hk' : k ≤ j
        · rw [if_pos hk', if_pos (by omega)]
        · rw [if_neg hk', if_neg (by omega)]
/-- What a character marks. -/
def via (es : List Em) (m : List Bool) (c : UInt8) (n k : Nat) : Bool :=
  (decide (k < n) && (m.getD k false && (emAt es k).chars.contains c) && (emAt es k).isStar) ||
  (decide (0 < k) && decide (k ≤ n) && (m.getD (k - 1) false && (emAt es (k - 1)).chars.contains c) && !(emAt es (k - 1)).isStar)
theorem nxt_get (es : List Em) (m : List Bool) (c : UInt8) (hm : m.length = es.length + 1) : ∀ j, j ≤ es.length → ∀ k, (nxt es m c j).getD k false = via es m c j k := by
  intro j
  induction j with
  | zero =>
    intro _ k
    rw [nxt_zero]
    by_cases hk : k = 0
    · subst hk; simp [via, List.getD]; cases m <;> simp
    · have : ¬ (k ≤ 0) := by omega
      simp [via, List.getD, List.getElem?_replicate, this]; split <;> simp
  | succ j ih =>
    intro hj k
    have ih' := ih (by omega)
    have hl := nxt_length es m c j
    rw [nxt_succ, nxtStep]
    by_cases hq : (m.getD j false && (emAt es j).chars.contains c) = true
    · have hq' : (!m.getD j false || !(emAt es j).chars.contains c) = false := by
        rw [← Bool.not_and, hq]; rfl
      rw [if_neg (by rw [hq']; simp)]
      by_cases hs : (emAt es j).isStar = true
      · rw [if_pos hs, getD_set _ _ _ (by omega), ih' k]
        by_cases hk : k = j
        · subst hk
          simp only [via, decide_true, Bool.true_or, hq, hs]
          simp
        · have e1 : decide (k < j + 1) = decide (k < j) := by simp; omega
          have e2 : (decide (0 < k) && decide (k ≤ j + 1) && (m.getD (k - 1) false && (emAt es (k - 1)).chars.contains c) && !(emAt es (k - 1)).isStar) = (decide (0 < k) && decide (k ≤ j) && (m.getD (k - 1) false && (emAt es (k - 1)).chars.contains c) && !(emAt es (k - 1)).isStar) := by
            by_cases hk2 : k = j + 1
            · subst hk2; simp [hs]
            · have : decide (k ≤ j + 1) = decide (k ≤ j) := by simp; omega
              rw [this]
          simp only [via, e1, e2, hk, decide_false, Bool.false_or]
      · have hs' : (emAt es j).isStar = false := by simpa using hs
        rw [if_neg hs, getD_set _ _ _ (by omega), ih' k]
        have e1 : (decide (k < j + 1) && (m.getD k false && (emAt es k).chars.contains c) && (emAt es k).isStar) = (decide (k < j) && (m.getD k false && (emAt es k).chars.contains c) && (emAt es k).isStar) := by
          by_cases hk2 : k = j
          · subst hk2; simp [hs']
          · have : decide (k < j + 1) = decide (k < j) := by simp; omega
            rw [this]
        by_cases hk : k = j + 1
        · subst hk
          simp only [via, decide_true, Bool.true_or, Nat.add_sub_cancel, hq, hs']
          simp
        · have : decide (k ≤ j + 1) = decide (k ≤ j) := by simp; omega
          simp only [via, e1, this, hk, decide_false, Bool.false_or]
    · have hq0 : (m.getD j false && (emAt es j).chars.contains c) = false := by simpa using hq
      have hq' : (!m.getD j false || !(emAt es j).chars.contains c) = true := by
        rw [← Bool.not_and, hq0]; rfl
      rw [if_pos hq', ih' k]
      have e1 : (decide (k < j + 1) && (m.getD k false && (emAt es k).chars.contains c) && (emAt es k).isStar) = (decide (k < j) && (m.getD k false && (emAt es k).chars.contains c) && (emAt es k).isStar) := by
        by_cases hk2 : k = j
        · subst hk2; rw [hq0]; simp
        · have : decide (k < j + 1) = decide (k < j) := by simp; omega
          rw [this]
      have e2 : (decide (0 < k) && decide (k ≤ j + 1) && (m.getD (k - 1) false && (emAt es (k - 1)).chars.contains c) && !(emAt es (k - 1)).isStar) = (decide (0 < k) && decide (k ≤ j) && (m.getD (k - 1) false && (emAt es (k - 1)).chars.contains c) && !(emAt es (k - 1)).isStar) := by
        by_cases hk2 : k = j + 1
        · subst hk2; rw [Nat.add_sub_cancel, hq0]; simp
        · have : decide (k ≤ j + 1) = decide (k ≤ j) := by simp; omega
          rw [this]
      simp only [via, e1, e2]
/-- What a mark says. -/
def reachF (es : List Em) (l : Bs) (k : Nat) : Bool := matchF (es.take (if k < es.length ∧ (emAt es k).isStar = true then k + 1 else k)) l
theorem take_em (es : List Em) (k : Nat) (h : k < es.length) : es.take (k + 1) = es.take k ++ [emAt es k] := by
  rw [List.take_succ_eq_append_getElem h]; simp [emAt, List.getD, h]
theorem reach_at (es : List Em) (l : Bs) (k : Nat) (h : k < es.length) (hs : (emAt es k).isStar = true) : reachF es l k = matchF (es.take (k + 1)) l := by
  unfold reachF; rw [if_pos ⟨h, hs⟩]
theorem reach_no (es : List Em) (l : Bs) (k : Nat) (hs : ¬ (k < es.length ∧ (emAt es k).isStar = true)) : reachF es l k = matchF (es.take k) l := by
  unfold reachF; rw [if_neg hs]
theorem reach_nil (es : List Em) (m : List Bool) (hm0 : m.getD 0 false = true) (hm : ∀ k, m.getD (k + 1) false = false) : ∀ k, k ≤ es.length → clo es m k = reachF es [] k := by
  have base : ∀ k, reachF es [] k = matchF (es.take k) [] := fun k => by
    by_cases h : k < es.length ∧ (emAt es k).isStar = true
    · rw [reach_at es _ k h.1 h.2, take_em es k h.1, match_star_nil _ _ h.2]
    · rw [reach_no es _ k h]
  intro k
  induction k with
  | zero => intro _; rw [base]; simp [clo, List.getD] at hm0 ⊢; rw [hm0]; rfl
  | succ k ih =>
    intro hk
    rw [clo, hm, Bool.false_or, ih (by omega), base, base, take_em es k (by omega)]
    rcases hs : (emAt es k).isStar with _ | _
    · rw [match_one_nil _ _ hs]; simp
    · rw [match_star_nil _ _ hs]; simp
theorem reach_snoc (es : List Em) (hes : ∀ e ∈ es, e.Ok) (m a : List Bool) (l : Bs) (c : UInt8) (hm : ∀ k, k ≤ es.length → m.getD k false = reachF es l k) (ha : ∀ k, a.getD k false = via es m c es.length k) :
    ∀ k, k ≤ es.length → clo es a k = reachF es (l ++ [c]) k := by
  have starhas : ∀ e : Em, e.isStar = true → e.chars.contains c = isChar c := fun e he => by
    cases e <;> simp [Em.isStar] at he
    exact nameC_has c
  -- what the elements before k match
  have main : ∀ k, k ≤ es.length → (clo es a k = true ↔ (matchF (es.take k) (l ++ [c]) = true ∨ (k < es.length ∧ (emAt es k).isStar = true ∧ isChar c = true ∧ reachF es l k = true))) ∧ (reachF es (l ++ [c]) k = true ↔ (matchF (es.take k) (l ++ [c]) = true ∨ (k < es.length ∧ (emAt es k).isStar = true ∧ isChar c = true ∧ reachF es l k = true))) := by
    intro k
    have R : k ≤ es.length → (reachF es (l ++ [c]) k = true ↔ (matchF (es.take k) (l ++ [c]) = true ∨ (k < es.length ∧ (emAt es k).isStar = true ∧ isChar c = true ∧ reachF es l k = true))) := by
      intro hk
      by_cases h : k < es.length ∧ (emAt es k).isStar = true
      · rw [reach_at es _ k h.1 h.2, reach_at es _ k h.1 h.2, take_em es k h.1, match_star_snoc _ _ h.2]
        simp [h.1, h.2]
      · rw [reach_no es _ k h]
        constructor
        · intro h; exact .inl h
        · rintro (h' | ⟨h1, h2, _⟩)
          · exact h'
          · exact absurd ⟨h1, h2⟩ h
    induction k with
    | zero =>
      intro hk
      refine ⟨?_, R hk⟩
      rw [clo, ha, List.take_zero, match_nil_snoc]
      simp only [via, Nat.lt_irrefl, decide_false, Bool.false_and, Bool.or_false, Bool.and_eq_true, decide_eq_true_eq, Bool.false_eq_true, false_or]
      constructor
      · rintro ⟨⟨h1, h2, h3⟩, h4⟩
        rw [starhas _ h4] at h3
        rw [hm 0 (by omega)] at h2
        exact ⟨h1, h4, h3, h2⟩
      · rintro ⟨h1, h2, h3, h4⟩
        exact ⟨⟨h1, by rw [hm 0 (by omega)]; exact h4, by rw [starhas _ h2]; exact h3⟩, h2⟩
    | succ k ih =>
      intro hk
      refine ⟨?_, R hk⟩
      have ih' := ih (fun _ => (by
        by_cases h : k < es.length ∧ (emAt es k).isStar = true
        · rw [reach_at es _ k h.1 h.2, reach_at es _ k h.1 h.2, take_em es k h.1, match_star_snoc _ _ h.2]
          simp [h.1, h.2]
        · rw [reach_no es _ k h]
          constructor
          · intro h; exact .inl h
          · rintro (h' | ⟨h1, h2, _⟩)
            · exact h'
            · exact absurd ⟨h1, h2⟩ h)) (by omega)
      have hkl : k < es.length := by omega
      rw [clo, ha, Bool.or_eq_true, Bool.and_eq_true]
      have hM : matchF (es.take (k + 1)) (l ++ [c]) = true ↔ ((emAt es k).isStar = true ∧ clo es a k = true) ∨ ((emAt es k).isStar = false ∧ reachF es l k = true ∧ (emAt es k).chars.contains c = true) := by
        rcases hs : (emAt es k).isStar with _ | _
        · rw [take_em es k hkl, match_one_snoc _ _ hs, Bool.and_eq_true, reach_no es l k (by simp [hs])]
          simp
        · rw [← reach_at es _ k hkl hs, ih'.2, ih'.1]
          simp
      rw [hM]
      have hV : via es a c es.length (k + 1) = true ∨ True := .inr trivial
      have hvia : via es m c es.length (k + 1) = true ↔ (k + 1 < es.length ∧ (emAt es (k + 1)).isStar = true ∧ isChar c = true ∧ reachF es l (k + 1) = true) ∨ ((emAt es k).isStar = false ∧ reachF es l k = true ∧ (emAt es k).chars.contains c = true) := by
        simp only [via, Nat.add_sub_cancel, Bool.or_eq_true, Bool.and_eq_true, decide_eq_true_eq, Bool.not_eq_true']
        constructor
        · rintro (⟨⟨h1, h2, h3⟩, h4⟩ | ⟨⟨⟨h0, h1⟩, h2, h3⟩, h4⟩)
          · left
            rw [starhas _ h4] at h3
            rw [hm _ hk] at h2
            exact ⟨h1, h4, h3, h2⟩
          · right
            rw [hm _ (by omega)] at h2
            exact ⟨h4, h2, h3⟩
        · rintro (⟨h1, h2, h3, h4⟩ | ⟨h1, h2, h3⟩)
          · exact .inl ⟨⟨h1, by rw [hm _ hk]; exact h4, by rw [starhas _ h2]; exact h3⟩, h2⟩
          · exact .inr ⟨⟨⟨by omega, by omega⟩, by rw [hm _ (by omega)]; exact h2, h3⟩, h1⟩
      rw [hvia]
      constructor
      · rintro ((h | h) | ⟨h1, h2⟩)
        · exact .inr h
        · exact .inl (.inr h)
        · exact .inl (.inl ⟨h2, h1⟩)
      · rintro ((⟨h1, h2⟩ | h) | h)
        · exact .inr ⟨h2, h1⟩
        · exact .inl (.inr h)
        · exact .inl (.inl h)
  intro k hk
  rw [Bool.eq_iff_iff, (main k hk).1, (main k hk).2]
theorem marks_get (es : List Em) (hes : ∀ e ∈ es, e.Ok) (l : Bs) : ∀ k, k ≤ es.length → (marks es l).getD k false = reachF es l k := by
  induction l using snoc_ind with
  | h0 =>
    intro k hk
    rw [marks_nil, spr_get es _ (by simp) _ (Nat.le_refl _), if_pos hk]
    refine reach_nil es _ (by simp) (fun k => ?_) k hk
    simp [List.getD, List.getElem?_replicate]; split <;> simp
  | hs l c ih =>
    intro k hk
    rw [marks_snoc, spr_get es _ (by rw [nxt_length, marks_length]) _ (Nat.le_refl _), if_pos hk]
    exact reach_snoc es hes (marks es l) _ l c ih (nxt_get es _ c (marks_length es l) _ (Nat.le_refl _)) k hk
theorem marks_match (es : List Em) (hes : ∀ e ∈ es, e.Ok) (l : Bs) : (marks es l).getD es.length false = matchF es l := by
  rw [marks_get es hes l _ (Nat.le_refl _), reach_no es l _ (by omega), List.take_length]
/-- Whether elements match nothing. -/
def emptyF (es : List Em) : Bool := es.any fun e => e.chars.isEmpty
theorem emptyF_match (es : List Em) (l : Bs) (h : matchF es l = true) : emptyF es = false := by
  induction es generalizing l with
  | nil => rfl
  | cons e es ih =>
    by_cases he : e.isStar = true
    · simp only [matchF, he, if_true, starM_iff] at h
      obtain ⟨u, v, rfl, hu, hv⟩ := h
      have := ih v hv
      have hc : e.chars.isEmpty = false := by cases e <;> simp [Em.isStar] at he; rfl
      simp only [emptyF, List.any_cons, hc, Bool.false_or]; exact this
    · have he' : e.isStar = false := by simpa using he
      simp only [matchF, he', Bool.false_eq_true, if_false, oneM_iff] at h
      obtain ⟨c, r, rfl, hc, hr⟩ := h
      have := ih r hr
      have hc : e.chars.isEmpty = false := by cases hh : e.chars <;> simp_all
      simp only [emptyF, List.any_cons, hc, Bool.false_or]; exact this
end Go.Proofs.YtcknomaaikeebaaDoor
