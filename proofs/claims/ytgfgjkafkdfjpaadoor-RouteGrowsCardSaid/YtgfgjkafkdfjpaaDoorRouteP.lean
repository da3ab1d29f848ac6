/- Plain: routes. No program here. -/
import Derived.Test.YtgfgjkafkdfjpaaDoorSeekP
namespace Go.Proofs.YtgfgjkafkdfjpaaDoor
set_option linter.unusedSimpArgs false
set_option linter.unusedVariables false

abbrev Bs := List UInt8
def isMark (c : UInt8) : Bool := c == (33 : UInt8)
/-- The pieces between marks; cur: what has been read of the current one. -/
def splitAux : Bs → Bs → List Bs
  | [], cur => [cur]
  | c :: r, cur => if isMark c then cur :: splitAux r [] else splitAux r (cur ++ [c])
def splitM (l : Bs) : List Bs := splitAux l []
def joinM : List Bs → Bs
  | [] => []
  | [x] => x
  | x :: y :: r => x ++ 33 :: joinM (y :: r)
theorem joinM_cons (x : Bs) (l : List Bs) (h : l ≠ []) : joinM (x :: l) = x ++ 33 :: joinM l := by
  cases l with
  | nil => exact absurd rfl h
  | cons y r => rfl
theorem splitAux_ne (l : Bs) : ∀ cur, splitAux l cur ≠ [] := by
  induction l with
  | nil => intro cur; simp [splitAux]
  | cons c r ih => intro cur; rw [splitAux]; split <;> simp [ih]
theorem join_splitAux (l : Bs) : ∀ cur, joinM (splitAux l cur) = cur ++ l := by
  induction l with
  | nil => intro cur; simp [splitAux, joinM]
  | cons c r ih =>
    intro cur
    rw [splitAux]
    split
    · rename_i h
      rw [joinM_cons _ _ (splitAux_ne _ _), ih]
      have : c = 33 := by simpa [isMark] using h
      simp [this]
    · rw [ih]; simp
theorem join_split (l : Bs) : joinM (splitM l) = l := by rw [splitM, join_splitAux]; rfl
theorem splitAux_run (x : Bs) (hx : ∀ c ∈ x, isMark c = false) : ∀ cur r, splitAux (x ++ r) cur = splitAux r (cur ++ x) := by
  induction x with
  | nil => intro cur r; simp
  | cons c x ih =>
    intro cur r
    rw [List.cons_append, splitAux, if_neg (by simp [hx c (by simp)]), ih (fun c hc => hx c (by simp [hc]))]
    simp
theorem split_join (l : List Bs) (hne : l ≠ []) (h : ∀ x ∈ l, ∀ c ∈ x, isMark c = false) : splitM (joinM l) = l := by
  unfold splitM
  induction l with
  | nil => exact absurd rfl hne
  | cons x r ih =>
    cases r with
    | nil =>
      have := splitAux_run x (h x (by simp)) [] []
      simpa [joinM, splitAux] using this
    | cons y r =>
      rw [joinM, splitAux_run x (h x (by simp)), splitAux, if_pos (by rfl), ih (by simp) (fun z hz => h z (by simp [hz]))]
      simp

/-- Reading the names: the count, the offset, what has been accepted. -/
def parseGo : List Bs → Nat → Nat → List Bs → List Bs × Nat × Int
  | [], _, _, acc => (acc, 0, 0)
  | x :: r, i, at_, acc => if i = 50 then ([], at_, 9) else if (siteF x).2 ≠ 0 then ([], at_ + (siteF x).1, (siteF x).2) else parseGo r (i + 1) (at_ + x.length + 1) (acc ++ [x])
def parseR (l : Bs) : List Bs × Nat × Int := if l.length = 0 then ([], 0, 0) else parseGo (splitM l) 0 0 []
def checkGo : List Bs → Int
  | [] => 0
  | x :: r => if (siteF x).2 ≠ 0 then (siteF x).2 else checkGo r
def checkR (l : List Bs) : Int := if 50 < l.length then 9 else checkGo l
def prependR (l : List Bs) (s : Bs) : List Bs × Int := if (siteF s).2 ≠ 0 then ([], (siteF s).2) else if checkR l ≠ 0 then ([], checkR l) else ((s :: l).take 50, 0)
def hasB (l : List Bs) (s : Bs) : Bool := l.contains s
def loopR : List Bs → Bs × Bool
  | [] => ([], false)
  | x :: r => if hasB r x = true then (x, true) else loopR r
def linkAdd (acc : List (Bs × Bs)) (p : Bs × Bs) : List (Bs × Bs) := if p.1 = p.2 ∨ p ∈ acc then acc else acc ++ [p]
def linksDown (l : List Bs) : Nat → List (Bs × Bs) → List (Bs × Bs)
  | 0, acc => acc
  | i + 1, acc => linksDown l i (linkAdd acc (l.getD (i + 1) [], l.getD i []))
def linksR (l : List Bs) : List (Bs × Bs) := linksDown l (l.length - 1) []
/-- How many of the last names agree. -/
def commonN (a b : List Bs) : Nat := seekN (fun n => decide (b.length ≤ n) || !decide (a.getD (a.length - 1 - n) [] = b.getD (b.length - 1 - n) [])) a.length 0
def commonR (a b : List Bs) : List Bs := a.drop (a.length - commonN a b)

theorem parseGo_ok (r : List Bs) : ∀ i at_ acc, (parseGo r i at_ acc).2.2 = 0 → (parseGo r i at_ acc) = (acc ++ r, 0, 0) := by
  induction r with
  | nil => intro i at_ acc h; simp [parseGo]
  | cons x r ih =>
    intro i at_ acc h
    rw [parseGo] at h ⊢
    split at h
    · simp at h
    · rename_i h1
      split at h
      · rename_i h2; exact absurd h h2
      · rename_i h2
        rw [if_neg h1, if_neg h2, ih _ _ _ h]; simp
theorem parse_text (l : Bs) (h : (parseR l).2.2 = 0) : joinM (parseR l).1 = l ∧ (parseR l).2.1 = 0 := by
  unfold parseR at h ⊢
  split
  · rename_i h0; exact ⟨by rw [List.eq_nil_of_length_eq_zero h0]; rfl, rfl⟩
  · rename_i h0
    rw [if_neg h0] at h
    rw [parseGo_ok _ _ _ _ h]
    exact ⟨by simpa using join_split l, rfl⟩
theorem site_noMark (x : Bs) (h : (siteF x).2 = 0) : x ≠ [] ∧ ∀ c ∈ x, isMark c = false := by
  obtain ⟨h1, h2, h3⟩ := site_ok x h
  refine ⟨fun e => by subst e; simp at h1, fun c hc => ?_⟩
  obtain ⟨i, hi, rfl⟩ := List.getElem_of_mem hc
  have := h3 i hi
  rw [byteAt, List.getD, List.getElem?_eq_getElem hi] at this
  unfold isMark
  rw [beq_eq_false_iff_ne]; intro e
  rw [Option.getD_some, e] at this
  revert this; decide
theorem checkGo_all (l : List Bs) (h : checkGo l = 0) : ∀ x ∈ l, (siteF x).2 = 0 := by
  induction l with
  | nil => intro x hx; cases hx
  | cons y r ih =>
    rw [checkGo] at h
    split at h
    · rename_i h2; exact absurd h h2
    · rename_i h2
      intro x hx
      rcases List.mem_cons.1 hx with rfl | hx
      · simpa using h2
      · exact ih h x hx
theorem parseGo_all (r : List Bs) (hr : ∀ x ∈ r, (siteF x).2 = 0) : ∀ i at_ acc, i + r.length ≤ 50 → parseGo r i at_ acc = (acc ++ r, 0, 0) := by
  induction r with
  | nil => intro i at_ acc _; simp [parseGo]
  | cons x r ih =>
    intro i at_ acc h
    simp at h
    rw [parseGo, if_neg (by omega), if_neg (by simp [hr x (by simp)]), ih (fun x hx => hr x (by simp [hx])) _ _ _ (by omega)]
    simp
theorem parse_join (l : List Bs) (h : checkR l = 0) : parseR (joinM l) = (l, 0, 0) := by
  unfold checkR at h
  split at h
  · simp at h
  · rename_i h5
    have hall := checkGo_all l h
    cases l with
    | nil => rfl
    | cons x r =>
      have hx := site_noMark x (hall x (by simp))
      have hj : joinM (x :: r) ≠ [] := by
        intro e
        cases r with
        | nil => exact hx.1 e
        | cons y r => simp [joinM] at e
      unfold parseR
      rw [if_neg (by intro e; exact hj (List.eq_nil_of_length_eq_zero e)), split_join _ (by simp) (fun y hy => (site_noMark y (hall y hy)).2), parseGo_all _ hall _ _ _ (by simpa using Nat.not_lt.1 h5)]
      rfl
end Go.Proofs.YtgfgjkafkdfjpaaDoor
