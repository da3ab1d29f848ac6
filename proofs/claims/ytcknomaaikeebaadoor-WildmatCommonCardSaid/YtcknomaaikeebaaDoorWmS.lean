/- Plain: the library's Split at a comma. No program here. -/
import Derived.Test.YtcknomaaikeebaaDoorWmP
import Derived.Test.YtcknomaaikeebaaDoorMem2
import Derived.Lib.SplitLaws
import Derived.Lib.IndexBytes
import Derived.Lib.IndexLaws
namespace Go.Proofs.YtcknomaaikeebaaDoor
set_option linter.unusedSimpArgs false
set_option linter.unusedVariables false

def isMark (c : UInt8) : Bool := c == (44 : UInt8)
/-- The pieces between marks; cur: what has been read of the current one. -/
def splitAux : Bs → Bs → List Bs
  | [], cur => [cur]
  | c :: r, cur => if isMark c then cur :: splitAux r [] else splitAux r (cur ++ [c])
def splitM (l : Bs) : List Bs := splitAux l []
theorem splitAux_ne (l : Bs) : ∀ cur, splitAux l cur ≠ [] := by
  induction l with
  | nil => intro cur; simp [splitAux]
  | cons c r ih => intro cur; rw [splitAux]; split <;> simp [ih]
theorem splitAux_run (x : Bs) (hx : ∀ c ∈ x, isMark c = false) : ∀ cur r, splitAux (x ++ r) cur = splitAux r (cur ++ x) := by
  induction x with
  | nil => intro cur r; simp
  | cons c x ih =>
    intro cur r
    rw [List.cons_append, splitAux, if_neg (by simp [hx c (by simp)]), ih (fun c hc => hx c (by simp [hc]))]
    simp
def markS : ByteArray := ⟨#[44]⟩
theorem markS_size : markS.size = 1 := rfl
theorem indexB_mark (s : ByteArray) : Lib.indexB s markS = Lib.indexByte (toL s) 44 := by
  show Lib.index (toL s) [44] = _
  exact Lib.index_one _ _
theorem split_none (l : Bs) (h : ∀ c ∈ l, isMark c = false) : splitM l = [l] := by
  have := splitAux_run l h [] []
  simpa [splitM, splitAux] using this
theorem split_some (x r : Bs) (h : ∀ c ∈ x, isMark c = false) : splitM (x ++ 44 :: r) = x :: splitM r := by
  unfold splitM
  rw [splitAux_run x h, splitAux, if_pos (by rfl)]; simp
theorem split_lib : ∀ (k : Nat) (s : ByteArray), Lib.countB s markS = k → (Lib.splitB markS 0 k s).map toL = splitM (toL s) := by
  intro k
  induction k with
  | zero =>
    intro s hk
    rcases Lib.indexB_cases s markS with hix | ⟨i, hix, hroom⟩
    · rw [Lib.splitB_miss _ _ _ _ hix]
      rw [indexB_mark] at hix
      have hn := Lib.indexByte_none hix
      rw [split_none _ (fun c hc => by
        obtain ⟨j, hj, rfl⟩ := List.getElem_of_mem hc
        have := hn j
        rw [List.getElem?_eq_getElem hj] at this
        unfold isMark; rw [beq_eq_false_iff_ne]; intro e; rw [e] at this; exact this rfl)]
      rfl
    · have := Lib.countB_hit s markS i (by decide) hix
      omega
  | succ k ih =>
    intro s hk
    rcases Lib.indexB_cases s markS with hix | ⟨i, hix, hroom⟩
    · rw [Lib.countB_miss _ _ hix] at hk; omega
    · have hc := Lib.countB_hit s markS i (by decide) hix
      rw [Lib.splitB_hit _ _ _ _ _ hix, List.map_cons, ih _ (by omega)]
      rw [indexB_mark] at hix
      obtain ⟨h1, h2⟩ := Lib.indexByte_some hix
      have hil : i < (toL s).length := by
        rcases Nat.lt_or_ge i (toL s).length with h | h
        · exact h
        · rw [List.getElem?_eq_none h] at h1; cases h1
      have hi44 : (toL s)[i] = 44 := by rw [List.getElem?_eq_getElem hil] at h1; simpa using h1
      have e : toL s = (toL s).take i ++ 44 :: (toL s).drop (i + 1) := by
        conv => lhs; rw [← List.take_append_drop i (toL s), List.drop_eq_getElem_cons hil, hi44]
      have hm : ∀ c ∈ (toL s).take i, isMark c = false := fun c hc => by
        obtain ⟨j, hj, rfl⟩ := List.getElem_of_mem hc
        rw [List.getElem_take]
        have hj' : j < i := by rw [List.length_take] at hj; omega
        have := h2 j hj'
        rw [List.getElem?_eq_getElem (by omega)] at this
        unfold isMark; rw [beq_eq_false_iff_ne]; intro e; rw [e] at this; exact this rfl
      conv => rhs; rw [e]
      rw [split_some _ _ hm, extract_toL, extract_toL, markS_size]
      congr 1
      congr 1
      unfold cutL
      rw [List.take_of_length_le]
      rw [List.length_drop, toL_length]
      exact Nat.le_refl _
theorem split_len (s : ByteArray) : Lib.countB s markS + 1 = (splitM (toL s)).length := by
  rw [← split_lib _ s rfl, List.length_map, Lib.splitB_all _ (by decide) _ _ _ rfl]
theorem split_cells (s : ByteArray) : (Lib.splitB markS 0 (Lib.countB s markS) s).map Value.string = strsL (splitM (toL s)) := by
  rw [← split_lib _ s rfl, strsL, List.map_map]
  apply List.map_congr_left
  intro x _
  simp [ofL_toL]
theorem splitAux_sum (l : Bs) : ∀ cur, (splitAux l cur).length ≤ l.length + 1 ∧ ∀ x ∈ splitAux l cur, x.length ≤ cur.length + l.length := by
  induction l with
  | nil => intro cur; simp [splitAux]
  | cons c r ih =>
    intro cur
    rw [splitAux]
    split
    · have := ih []
      refine ⟨by simp; omega, fun x hx => ?_⟩
      rcases List.mem_cons.1 hx with rfl | hx
      · omega
      · have := this.2 x hx; simp at this ⊢; omega
    · have := ih (cur ++ [c])
      refine ⟨by simp; omega, fun x hx => ?_⟩
      have := this.2 x hx; simp at this ⊢; omega
end Go.Proofs.YtcknomaaikeebaaDoor
