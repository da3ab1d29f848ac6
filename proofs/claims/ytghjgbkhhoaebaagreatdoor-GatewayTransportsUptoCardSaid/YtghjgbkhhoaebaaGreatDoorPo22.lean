/- Lemmas and walks, part 22. -/
import Derived.Test.YtghjgbkhhoaebaaGreatDoorPo12
import Derived.Test.YtghjgbkhhoaebaaGreatDoorPo7
import Derived.Test.YtghjgbkhhoaebaaGreatDoorPo19
namespace Go.Proofs.YtghjgbkhhoaebaaGreatDoor
set_option linter.unusedSimpArgs false
set_option linter.unusedVariables false
open Go.Lib (decDigits)

/-- The texts that the lines of a body give. -/
def txtL : List (List UInt8) → List (List UInt8)
  | [] => []
  | x :: r => if levN x = 0 ∧ plnF x ≠ [] then plnF x :: txtL r else txtL r
theorem txtL_app (a b : List (List UInt8)) : txtL (a ++ b) = txtL a ++ txtL b := by
  induction a with
  | nil => rfl
  | cons x r ih =>
    rw [List.cons_append, txtL, txtL]
    split
    · rw [ih]; rfl
    · exact ih
theorem txtL_len (a : List (List UInt8)) : (txtL a).length ≤ a.length := by
  induction a with
  | nil => simp [txtL]
  | cons x r ih => rw [txtL]; split <;> simp <;> omega
theorem txtL_mem {a : List (List UInt8)} : ∀ t ∈ txtL a, ∃ x, t = plnF x ∧ plnF x ≠ [] := by
  induction a with
  | nil => intro t h; cases h
  | cons x r ih =>
    intro t h
    rw [txtL] at h
    split at h
    · rename_i hx
      rcases List.mem_cons.1 h with h | h
      · exact ⟨x, h, hx.2⟩
      · exact ih t h
    · exact ih t h
def titleF (N S : List UInt8) : List UInt8 := plnF (N ++ ([58, 32] ++ S))
def txt0 (N S B : List UInt8) : List (List UInt8) := titleF N S :: txtL (linesF (divF B).1)
/-- '... and n more lines'. -/
def moreL (n : Nat) : List UInt8 := [46, 46, 46, 32, 97, 110, 100, 32] ++ (decDigits n ++ [32, 109, 111, 114, 101, 32, 108, 105, 110, 101, 115])
def capT (l : List (List UInt8)) : List (List UInt8) := if 50 < l.length then l.take 49 ++ [moreL (l.length - 49)] else l
def txtF (N S B : List UInt8) : List (List UInt8) := capT (txt0 N S B)
theorem capT_len (l : List (List UInt8)) : (capT l).length ≤ 50 := by
  unfold capT; split
  · simp; omega
  · omega
/-- Bytes of visible ASCII and blanks are code points. -/
theorem asc_enc : ∀ (L : List UInt8), (∀ c ∈ L, 32 ≤ c.toNat ∧ c.toNat ≤ 126) → encL (L.map (·.toNat)) = L ∧ RuneL (L.map (·.toNat)) ∧ ∀ x ∈ L.map (·.toNat), ctlU x = false
  | [], _ => ⟨rfl, by intro x hx; simp at hx, by intro x hx; simp at hx⟩
  | c :: r, h => by
    obtain ⟨h1, h2, h3⟩ := asc_enc r fun x hx => h x (by simp [hx])
    have hc := h c (by simp)
    refine ⟨?_, ?_, ?_⟩
    · rw [List.map_cons, encL_cons, h1]
      unfold encU; rw [if_pos (by omega)]
      simp
    · intro x hx
      rw [List.map_cons] at hx
      rcases List.mem_cons.1 hx with hx | hx
      · subst hx; exact ⟨by omega, by omega⟩
      · exact h2 x hx
    · intro x hx
      rw [List.map_cons] at hx
      rcases List.mem_cons.1 hx with hx | hx
      · subst hx
        unfold ctlU
        simp only [Bool.or_eq_false_iff, Bool.and_eq_false_iff, decide_eq_false_iff_not, beq_eq_false_iff_ne]
        omega
      · exact h3 x hx
theorem asc_text (L : List UInt8) (h : ∀ c ∈ L, 32 ≤ c.toNat ∧ c.toNat ≤ 126) (h0 : L ≠ []) (hl : L.length ≤ 400) : textE L = 0 := by
  obtain ⟨h1, h2, h3⟩ := asc_enc L h
  have hc : ctlB L = false := by
    rw [← h1]
    unfold ctlB
    rw [all_enc _ 0 h2, chk_enc h2]
    simp only [Bool.or_eq_false_iff]
    refine ⟨?_, by simp⟩
    rw [List.any_eq_false]
    intro x hx
    have hm : x.2 ∈ L.map (·.toNat) := by
      have : x.2 ∈ (offR 0 (L.map (·.toNat))).map (·.2) := List.mem_map.2 ⟨x, hx, rfl⟩
      rwa [off_runes] at this
    rw [h3 _ hm]; simp
  unfold textE
  rw [if_neg (by intro e; exact h0 (List.eq_nil_of_length_eq_zero e)), if_neg (by omega), if_neg (by rw [hc]; simp)]
theorem more_text (n : Nat) (h : n < 10 ^ 20) : textE (moreL n) = 0 := by
  refine asc_text _ ?_ (by unfold moreL; simp) ?_
  · intro c hc
    unfold moreL at hc
    rcases List.mem_append.1 hc with hc | hc
    · have : ∀ c ∈ ([46, 46, 46, 32, 97, 110, 100, 32] : List UInt8), 32 ≤ c.toNat ∧ c.toNat ≤ 126 := by decide
      exact this c hc
    · rcases List.mem_append.1 hc with hc | hc
      · have := (dec_dig n).1 c hc; omega
      · have : ∀ c ∈ ([32, 109, 111, 114, 101, 32, 108, 105, 110, 101, 115] : List UInt8), 32 ≤ c.toNat ∧ c.toNat ≤ 126 := by decide
        exact this c hc
  · have := dec_len_lt 19 n h
    unfold moreL
    simp only [List.length_append, List.length_cons, List.length_nil]; omega
theorem lines_lenT (L : List UInt8) : (linesF L).length ≤ L.length + 1 := by
  unfold linesF spans; rw [List.length_map]; exact spans_len _ _ _
theorem txt_ok (N S B : List UInt8) (hb : B.length < 10 ^ 10) : ∀ t ∈ txtF N S B, textE t = 0 := by
  have h0 : ∀ t ∈ txt0 N S B, textE t = 0 := by
    intro t ht
    unfold txt0 at ht
    rcases List.mem_cons.1 ht with ht | ht
    · subst ht
      exact pln_text _ (pln_ne (by simp))
    · obtain ⟨x, rfl, hx⟩ := txtL_mem t ht
      exact pln_text _ hx
  intro t ht
  unfold txtF capT at ht
  split at ht
  · rcases List.mem_append.1 ht with ht | ht
    · exact h0 t (List.mem_of_mem_take ht)
    · rw [List.mem_singleton] at ht
      subst ht
      refine more_text _ ?_
      have h1 := txtL_len (linesF (divF B).1)
      have h2 := lines_lenT (divF B).1
      have h3 := (div_len B).1
      have h4 : (txt0 N S B).length = (txtL (linesF (divF B).1)).length + 1 := by simp [txt0]
      have h5 : (10 : Nat) ^ 10 + 10 < 10 ^ 20 := by decide
      omega
  · exact h0 t ht
end Go.Proofs.YtghjgbkhhoaebaaGreatDoor
