/- Lemmas and walks, part 18. -/
import Derived.Test.YtannhfnpigiggaaGreatDoorPs1
import Derived.Test.YtannhfnpigiggaaGreatDoorPs3
import Derived.Lib.SplitLaws
import Derived.Lib.IndexBytes
import Derived.Lib.IndexLaws
namespace Go.Proofs.YtannhfnpigiggaaGreatDoor
set_option linter.unusedSimpArgs false
set_option linter.unusedVariables false

def isMark (c : UInt8) : Bool := c == (44 : UInt8)
/-- The pieces between marks; cur: what has been read of the current one. -/
def splitAux : Bs → Bs → List Bs
  | [], cur => [cur]
  | c :: r, cur => if isMark c then cur :: splitAux r [] else splitAux r (cur ++ [c])
def splitM (l : Bs) : List Bs := splitAux l []
theorem splitAux_ne (l : Bs) : ∀ cur, splitAux l cur ≠ [] := by
  induction l with
  | nil => intro cur; simp [splitAux]
  | cons c r ih => intro cur; rw [splitAux]; split <;> simp [ih]
theorem splitAux_run (x : Bs) (hx : ∀ c ∈ x, isMark c = false) : ∀ cur r, splitAux (x ++ r) cur = splitAux r (cur ++ x) := by
  induction x with
  | nil => intro cur r; simp
  | cons c x ih =>
    intro cur r
    rw [List.cons_append, splitAux, if_neg (by simp [hx c (by simp)]), ih (fun c hc => hx c (by simp [hc]))]
    simp
def markS : ByteArray := ⟨#[44]⟩
theorem markS_size : markS.size = 1 := rfl
theorem indexB_mark (s : ByteArray) : Lib.indexB s markS = Lib.indexByte (toL s) 44 := by
  show Lib.index (toL s) [44] = _
  exact Lib.index_one _ _
theorem split_none (l : Bs) (h : ∀ c ∈ l, isMark c = false) : splitM l = [l] := by
  have := splitAux_run l h [] []
  simpa [splitM, splitAux] using this
theorem split_some (x r : Bs) (h : ∀ c ∈ x, isMark c = false) : splitM (x ++ 44 :: r) = x :: splitM r := by
  unfold splitM
  rw [splitAux_run x h, splitAux, if_pos (by rfl)]; simp
theorem split_lib : ∀ (k : Nat) (s : ByteArray), Lib.countB s markS = k → (Lib.splitB markS 0 k s).map toL = splitM (toL s) := by
  intro k
  induction k with
  | zero =>
    intro s hk
    rcases Lib.indexB_cases s markS with hix | ⟨i, hix, hroom⟩
    · rw [Lib.splitB_miss _ _ _ _ hix]
      rw [indexB_mark] at hix
      have hn := Lib.indexByte_none hix
      rw [split_none _ (fun c hc => by
        obtain ⟨j, hj, rfl⟩ := List.getElem_of_mem hc
        have := hn j
        rw [List.getElem?_eq_getElem hj] at this
        unfold isMark; rw [beq_eq_false_iff_ne]; intro e; rw [e] at this; exact this rfl)]
      rfl
    · have := Lib.countB_hit s markS i (by decide) hix
      omega
  | succ k ih =>
    intro s hk
    rcases Lib.indexB_cases s markS with hix | ⟨i, hix, hroom⟩
    · rw [Lib.countB_miss _ _ hix] at hk; omega
    · have hc := Lib.countB_hit s markS i (by decide) hix
      rw [Lib.splitB_hit _ _ _ _ _ hix, List.map_cons, ih _ (by omega)]
      rw [indexB_mark] at hix
      obtain ⟨h1, h2⟩ := Lib.indexByte_some hix
      have hil : i < (toL s).length := by
        rcases Nat.lt_or_ge i (toL s).length with h | h
        · exact h
        · rw [List.getElem?_eq_none h] at h1; cases h1
      have hi44 : (toL s)[i] = 44 := by rw [List.getElem?_eq_getElem hil] at h1; simpa using h1
      have e : toL s = (toL s).take i ++ 44 :: (toL s).drop (i + 1) := by
        conv => lhs; rw [← List.take_append_drop i (toL s), List.drop_eq_getElem_cons hil, hi44]
      have hm : ∀ c ∈ (toL s).take i, isMark c = false := fun c hc => by
        obtain ⟨j, hj, rfl⟩ := List.getElem_of_mem hc
        rw [List.getElem_take]
        have hj' : j < i := by rw [List.length_take] at hj; omega
        have := h2 j hj'
        rw [List.getElem?_eq_getElem (by omega)] at this
        unfold isMark; rw [beq_eq_false_iff_ne]; intro e; rw [e] at this; exact this rfl
      conv => rhs; rw [e]
      rw [split_some _ _ hm, extract_toL, extract_toL, markS_size]
      congr 1
      congr 1
      unfold cutL
      rw [List.take_of_length_le]
      rw [List.length_drop, toL_length]
      exact Nat.le_refl _
theorem split_len (s : ByteArray) : Lib.countB s markS + 1 = (splitM (toL s)).length := by
  rw [← split_lib _ s rfl, List.length_map, Lib.splitB_all _ (by decide) _ _ _ rfl]
theorem split_cells (s : ByteArray) : (Lib.splitB markS 0 (Lib.countB s markS) s).map Value.string = strsL (splitM (toL s)) := by
  rw [← split_lib _ s rfl, strsL, List.map_map]
  apply List.map_congr_left
  intro x _
  simp [ofL_toL]
theorem splitAux_sum (l : Bs) : ∀ cur, (splitAux l cur).length ≤ l.length + 1 ∧ ∀ x ∈ splitAux l cur, x.length ≤ cur.length + l.length := by
  induction l with
  | nil => intro cur; simp [splitAux]
  | cons c r ih =>
    intro cur
    rw [splitAux]
    split
    · have := ih []
      refine ⟨by simp; omega, fun x hx => ?_⟩
      rcases List.mem_cons.1 hx with rfl | hx
      · omega
      · have := this.2 x hx; simp at this ⊢; omega
    · have := ih (cur ++ [c])
      refine ⟨by simp; omega, fun x hx => ?_⟩
      have := this.2 x hx; simp at this ⊢; omega
end Go.Proofs.YtannhfnpigiggaaGreatDoor

namespace Go.Proofs.YtannhfnpigiggaaGreatDoor
set_option linter.unusedSimpArgs false
set_option linter.unusedVariables false

abbrev Ent := List Em × Int
/-- The verdict of a part, and its pattern's text. -/
def verdF : Bs → Int × Bs
  | [] => (1, [])
  | c :: r => if c = 33 then (2, r) else if c = 64 then (3, r) else (1, c :: r)
theorem verdF_len (l : Bs) : (verdF l).2.length ≤ l.length ∧ l.length ≤ (verdF l).2.length + 1 := by
  cases l with
  | nil => simp [verdF]
  | cons c r => simp only [verdF]; split <;> (try split) <;> simp
def listGo : List Bs → Nat → List Ent → List Ent × Nat × Int
  | [], _, acc => (acc, 0, 0)
  | x :: r, i, acc =>
    if acc.length = 64 then ([], i, 9)
    else if (compF (verdF x).2).2.2 ≠ 0 then ([], i + (x.length - (verdF x).2.length) + (compF (verdF x).2).2.1, (compF (verdF x).2).2.2)
    else listGo r (i + x.length + 1) (acc ++ [((compF (verdF x).2).1, (verdF x).1)])
def listF (l : Bs) : List Ent × Nat × Int := if l.length = 0 then ([], 0, 4) else listGo (splitM l) 0 []
theorem listGo_full (x : Bs) (r : List Bs) (i : Nat) (acc : List Ent) (h : acc.length = 64) : listGo (x :: r) i acc = ([], i, 9) := by rw [listGo, if_pos h]
theorem listGo_bad (x : Bs) (r : List Bs) (i : Nat) (acc : List Ent) (h : acc.length ≠ 64) (he : (compF (verdF x).2).2.2 ≠ 0) : listGo (x :: r) i acc = ([], i + (x.length - (verdF x).2.length) + (compF (verdF x).2).2.1, (compF (verdF x).2).2.2) := by rw [listGo, if_neg h, if_pos he]
theorem listGo_good (x : Bs) (r : List Bs) (i : Nat) (acc : List Ent) (h : acc.length ≠ 64) (he : (compF (verdF x).2).2.2 = 0) : listGo (x :: r) i acc = listGo r (i + x.length + 1) (acc ++ [((compF (verdF x).2).1, (verdF x).1)]) := by rw [listGo, if_neg h, if_neg (by simp [he])]
def EntOk (e : Ent) : Prop := (∀ x ∈ e.1, x.Ok) ∧ e.1.length ≤ 80 ∧ 1 ≤ e.2 ∧ e.2 ≤ 3
theorem verdF_range (l : Bs) : 1 ≤ (verdF l).1 ∧ (verdF l).1 ≤ 3 := by
  cases l with
  | nil => simp [verdF]
  | cons c r => simp only [verdF]; split <;> (try split) <;> simp
theorem listGo_ok (ps : List Bs) : ∀ i acc, acc.length ≤ 64 → (∀ e ∈ acc, EntOk e) → (∀ e ∈ (listGo ps i acc).1, EntOk e) ∧ (listGo ps i acc).1.length ≤ 64 ∧ ((listGo ps i acc).2.2 ≠ 0 → (listGo ps i acc).1 = []) ∧ 0 ≤ (listGo ps i acc).2.2 ∧ (listGo ps i acc).2.2 ≤ 9 := by
  induction ps with
  | nil => intro i acc hl h; exact ⟨h, hl, by simp [listGo], by simp [listGo], by simp [listGo]⟩
  | cons x r ih =>
    intro i acc hl h
    by_cases h1 : acc.length = 64
    · rw [listGo_full _ _ _ _ h1]; simp
    by_cases h2 : (compF (verdF x).2).2.2 = 0
    · rw [listGo_good _ _ _ _ h1 h2]
      refine ih _ _ (by simp; omega) fun e he => ?_
      rcases List.mem_append.1 he with he | he
      · exact h e he
      · simp only [List.mem_singleton] at he; subst he
        exact ⟨compF_ok _, (compF_len _).1, verdF_range x⟩
    · rw [listGo_bad _ _ _ _ h1 h2]
      have := compF_len (verdF x).2
      refine ⟨by simp, by simp, by simp, this.2.2.2.1, by have := this.2.2.2.2; simp; omega⟩
theorem listF_ok (l : Bs) : (∀ e ∈ (listF l).1, EntOk e) ∧ (listF l).1.length ≤ 64 ∧ ((listF l).2.2 ≠ 0 → (listF l).1 = []) ∧ 0 ≤ (listF l).2.2 ∧ (listF l).2.2 ≤ 9 := by
  unfold listF
  split
  · simp
  · exact listGo_ok _ _ _ (by simp) (by simp)

/-- The last pattern that matches decides. -/
def verdictF (es : List Ent) (name : Bs) : Int := es.foldl (fun v e => if matchF e.1 name then e.2 else v) 0
theorem verdictF_snoc (es : List Ent) (e : Ent) (name : Bs) : verdictF (es ++ [e]) name = if matchF e.1 name then e.2 else verdictF es name := by
  unfold verdictF; rw [List.foldl_append]; rfl
theorem verdictF_range (es : List Ent) (h : ∀ e ∈ es, EntOk e) (name : Bs) : 0 ≤ verdictF es name ∧ verdictF es name ≤ 3 := by
  unfold verdictF
  suffices g : ∀ (es : List Ent) (v : Int), (∀ e ∈ es, EntOk e) → 0 ≤ v → v ≤ 3 → 0 ≤ es.foldl (fun v e => if matchF e.1 name then e.2 else v) v ∧ es.foldl (fun v e => if matchF e.1 name then e.2 else v) v ≤ 3 from g es 0 h (by omega) (by omega)
  intro es
  induction es with
  | nil => intro v _ h1 h2; exact ⟨h1, h2⟩
  | cons e es ih =>
    intro v h h1 h2
    have := (h e (by simp)).2.2
    exact ih _ (fun e he => h e (by simp [he])) (by dsimp only; split <;> omega) (by dsimp only; split <;> omega)
def selGo (es : List Ent) : List Bs → Bool → Bool
  | [], a => a
  | n :: r, a => if verdictF es n = 3 then false else selGo es r (a || verdictF es n == 1)
def filtF (es : List Ent) (ns : List Bs) : List Bs := ns.filter fun n => verdictF es n == 1

/-! What is read holds no marks of lists. -/
def noMark (c : UInt8) : Prop := c ≠ 44 ∧ c ≠ 33 ∧ c ≠ 64
theorem char_noMark {c : UInt8} (h : isChar c = true) : noMark c := by
  refine ⟨?_, ?_, ?_⟩ <;> (rintro rfl; revert h; decide)
theorem classF_noMark (l : Bs) (x : Bs) (n : Nat) (h0 : l[0]? = some 91) (h : classF l = some (x, n)) : ∀ c ∈ l.take n, noMark c := by
  unfold classF at h
  simp only at h
  rcases hneg : (l[1]? == some 94) with _ | _
  all_goals
    rw [hneg] at h
    simp only [Bool.false_eq_true, if_false, if_true] at h
  · by_cases hn : (itemsF 0 true (l.drop 1)).2 = 0 ∨ l[1 + (itemsF 0 true (l.drop 1)).2]? ≠ some 93
    · rw [if_pos hn] at h; cases h
    · rw [if_neg hn] at h
      simp only [Option.some.injEq, Prod.mk.injEq] at h
      obtain ⟨_, rfl⟩ := h
      simp only [not_or, Decidable.not_not] at hn
      have hi := (itemsF_chars _ (l.drop 1) (Nat.le_refl _) true).2.1
      generalize (itemsF 0 true (l.drop 1)).2 = m at *
      intro c hc
      obtain ⟨j, hj, rfl⟩ := List.getElem_of_mem hc
      rw [List.getElem_take]
      simp only [List.length_take] at hj
      by_cases j0 : j = 0
      · subst j0
        rw [List.getElem?_eq_getElem (by omega)] at h0
        simp at h0; rw [h0]; refine ⟨?_, ?_, ?_⟩ <;> decide
      by_cases j1 : j = 1 + m
      · subst j1
        have h2 := hn.2
        rw [List.getElem?_eq_getElem (by omega)] at h2
        simp at h2; rw [h2]; refine ⟨?_, ?_, ?_⟩ <;> decide
      · refine char_noMark (hi _ ?_)
        refine List.mem_iff_getElem.2 ⟨j - 1, by simp; omega, ?_⟩
        rw [List.getElem_take, List.getElem_drop]
        congr 1; omega
  · by_cases hn : (itemsF 0 true (l.drop 2)).2 = 0 ∨ l[2 + (itemsF 0 true (l.drop 2)).2]? ≠ some 93
    · rw [if_pos hn] at h; cases h
    · rw [if_neg hn] at h
      simp only [Option.some.injEq, Prod.mk.injEq] at h
      obtain ⟨_, rfl⟩ := h
      simp only [not_or, Decidable.not_not] at hn
      have hi := (itemsF_chars _ (l.drop 2) (Nat.le_refl _) true).2.1
      generalize (itemsF 0 true (l.drop 2)).2 = m at *
      intro c hc
      obtain ⟨j, hj, rfl⟩ := List.getElem_of_mem hc
      rw [List.getElem_take]
      simp only [List.length_take] at hj
      by_cases j0 : j = 0
      · subst j0
        rw [List.getElem?_eq_getElem (by omega)] at h0
        simp at h0; rw [h0]; refine ⟨?_, ?_, ?_⟩ <;> decide
      by_cases j2 : j = 1
      · subst j2
        rw [List.getElem?_eq_getElem (by omega)] at hneg
        simp at hneg; rw [hneg]; refine ⟨?_, ?_, ?_⟩ <;> decide
      by_cases j1 : j = 2 + m
      · subst j1
        have h2 := hn.2
        rw [List.getElem?_eq_getElem (by omega)] at h2
        simp at h2; rw [h2]; refine ⟨?_, ?_, ?_⟩ <;> decide
      · refine char_noMark (hi _ ?_)
        refine List.mem_iff_getElem.2 ⟨j - 2, by simp; omega, ?_⟩
        simp [show 2 + (j - 2) = j by omega]
theorem compGo_noMark : ∀ (n : Nat) (l : Bs), l.length ≤ n → ∀ i acc, (compGo 0 l i acc).2.2 = 0 → ∀ c ∈ l, noMark c := by
  intro n
  induction n with
  | zero => intro l h i acc _; have : l = [] := List.eq_nil_of_length_eq_zero (by omega); subst this; simp
  | succ n ih =>
    intro l h i acc h0
    cases l with
    | nil => simp
    | cons c r =>
      simp at h
      have step : noMark c → ∀ acc', compGo 0 (c :: r) i acc = compGo 0 r (i + 1) acc' → ∀ d ∈ c :: r, noMark d := fun hc acc' e d hd => by
        rw [e] at h0
        rcases List.mem_cons.1 hd with rfl | hd
        · exact hc
        · exact ih r h _ _ h0 d hd
      by_cases h1 : c = 63
      · subst h1; exact step (by refine ⟨?_, ?_, ?_⟩ <;> decide) _ (compGo_any _ _ _)
      by_cases h2 : c = 42
      · subst h2; exact step (by refine ⟨?_, ?_, ?_⟩ <;> decide) _ (compGo_star _ _ _)
      by_cases h3 : c = 91
      · subst h3
        cases hc : classF (91 :: r) with
        | none => rw [compGo_noclass _ _ _ hc] at h0; simp at h0
        | some y =>
          obtain ⟨x, m⟩ := y
          obtain ⟨g1, g2, g3⟩ := classF_range hc
          rw [compGo_class _ _ _ x m hc (by omega) g2] at h0
          intro d hd
          rw [← List.take_append_drop m (91 :: r)] at hd
          rcases List.mem_append.1 hd with hd | hd
          · exact classF_noMark _ x m rfl hc d hd
          · exact ih _ (by simp at g2 ⊢; omega) _ _ h0 d hd
      by_cases hc : isChar c = true
      · exact step (char_noMark hc) _ (compGo_lit _ _ _ _ h1 h2 h3 hc)
      · rw [compGo_bad _ _ _ _ h1 h2 h3 (by simpa using hc)] at h0; simp at h0
theorem compF_noMark (l : Bs) (h : (compF l).2.2 = 0) : l ≠ [] ∧ ∀ c ∈ l, noMark c := by
  unfold compF at h
  by_cases h0 : l.length = 0
  · rw [if_pos h0] at h; simp at h
  · rw [if_neg h0] at h
    by_cases h1 : 80 < l.length
    · rw [if_pos h1] at h; simp at h
    · rw [if_neg h1] at h
      exact ⟨fun e => h0 (by simp [e]), compGo_noMark _ l (Nat.le_refl _) _ _ h⟩
theorem splitAux_append (a b : Bs) : ∀ cur, splitAux (a ++ 44 :: b) cur = splitAux a cur ++ splitM b := by
  induction a with
  | nil => intro cur; simp [splitAux, isMark, splitM]
  | cons c r ih =>
    intro cur
    rw [List.cons_append, splitAux, splitAux]
    split
    · rw [ih]; simp
    · rw [ih]
theorem listGo_append (ps qs : List Bs) : ∀ i acc, (listGo ps i acc).2.2 = 0 → ∃ j, listGo (ps ++ qs) i acc = listGo qs j (listGo ps i acc).1 := by
  induction ps with
  | nil => intro i acc _; exact ⟨i, rfl⟩
  | cons x r ih =>
    intro i acc h
    by_cases h1 : acc.length = 64
    · rw [listGo_full _ _ _ _ h1] at h; simp at h
    by_cases h2 : (compF (verdF x).2).2.2 = 0
    · rw [listGo_good _ _ _ _ h1 h2] at h ⊢
      rw [List.cons_append, listGo_good _ _ _ _ h1 h2]
      exact ih _ _ h
    · rw [listGo_bad _ _ _ _ h1 h2] at h; exact absurd h h2
/-- The mark of a verdict. -/
def markF (k : Nat) : Bs := if k = 0 then [] else if k = 1 then [33] else [64]
theorem verdF_mark (k : Nat) (hk : k < 3) (last : Bs) (h : ∀ c ∈ last, noMark c) (hne : last ≠ []) : verdF (markF k ++ last) = (1 + (k : Int), last) := by
  match k, hk with
  | 0, _ =>
    cases last with
    | nil => exact absurd rfl hne
    | cons c r =>
      have := h c (by simp)
      simp [markF, verdF, this.2.1, this.2.2]
  | 1, _ => simp [markF, verdF]
  | 2, _ => simp [markF, verdF]
theorem markF_noComma (k : Nat) : ∀ c ∈ markF k, isMark c = false := by
  unfold markF
  split
  · simp
  · split <;> simp [isMark]
/-- A pattern that is appended. -/
theorem listF_append (s last : Bs) (k : Nat) (hk : k < 3) (hs : (listF s).2.2 = 0) (hl : (compF last).2.2 = 0) (hn : (listF s).1.length < 64) :
    listF (s ++ 44 :: (markF k ++ last)) = ((listF s).1 ++ [((compF last).1, 1 + (k : Int))], 0, 0) := by
  obtain ⟨hne, hm⟩ := compF_noMark last hl
  have hs0 : ¬ s.length = 0 := fun e => by unfold listF at hs; rw [if_pos e] at hs; simp at hs
  unfold listF at hs hn ⊢
  rw [if_neg hs0] at hs hn ⊢
  rw [if_neg (by simp), splitM, splitAux_append]
  have hsp : splitM (markF k ++ last) = [markF k ++ last] := split_none _ fun c hc => by
    rcases List.mem_append.1 hc with hc | hc
    · exact markF_noComma k c hc
    · have := (hm c hc).1
      simpa [isMark] using this
  rw [hsp]
  obtain ⟨j, hj⟩ := listGo_append (splitM s) [markF k ++ last] 0 [] hs
  have hj' : listGo (splitAux s [] ++ [markF k ++ last]) 0 [] = listGo [markF k ++ last] j (listGo (splitM s) 0 []).1 := hj
  rw [hj', listGo_good _ _ _ _ (by omega) (by rw [verdF_mark k hk last hm hne]; exact hl), verdF_mark k hk last hm hne, listGo]

/-! Patterns of name characters. -/
theorem compGo_lits (l : Bs) (h : Chars l) : ∀ i acc, compGo 0 l i acc = (acc ++ l.map .lit, 0, 0) := by
  induction l with
  | nil => intro i acc; simp [compGo]
  | cons c r ih =>
    intro i acc
    have hc := h c (by simp)
    rw [compGo_lit c r i acc (by rintro rfl; revert hc; decide) (by rintro rfl; revert hc; decide) (by rintro rfl; revert hc; decide) hc, ih (fun c hc => h c (by simp [hc]))]
    simp
theorem match_lits (l : Bs) : ∀ t, matchF (l.map .lit) t = decide (t = l) := by
  induction l with
  | nil => intro t; cases t <;> simp [matchF]
  | cons c r ih =>
    intro t
    rw [List.map_cons, Bool.eq_iff_iff, match_one_cons _ _ rfl, decide_eq_true_iff]
    constructor
    · rintro ⟨d, u, rfl, hd, hu⟩
      rw [ih] at hu
      simp [Em.chars] at hd hu
      rw [hd, hu]
    · rintro rfl
      exact ⟨c, r, rfl, by simp [Em.chars], by rw [ih]; simp⟩
theorem empty_lits (l : Bs) : emptyF (l.map .lit) = false := emptyF_match _ l (by rw [match_lits]; simp)
end Go.Proofs.YtannhfnpigiggaaGreatDoor
