/- The table of common texts, without the program. -/
import Derived.Test.YtcknomaaikeebaaDoorWm8a
namespace Go.Proofs.YtcknomaaikeebaaDoor
set_option linter.unusedSimpArgs false
set_option linter.unusedVariables false
open Go.RowKit

/-- The table holds the best common text of every place behind. -/
def Behind (ps qs : List Em) (i k : Nat) (m : PosMap) : Prop := ∀ a b, a ≤ ps.length → b ≤ qs.length → m.lookup (a, b) = if i < a ∨ (a = i ∧ k < b) then comF (ps.drop a) (qs.drop b) else none
theorem comF_step (ps qs : List Em) (i k : Nat) (m : PosMap) (hi : i ≤ ps.length) (hk : k ≤ qs.length) (h : Behind ps qs i k m) : stepF ps qs m i k = comF (ps.drop i) (qs.drop k) := by
  unfold stepF
  by_cases h1 : i < ps.length
  · have d1 : ps.drop i = emAt ps i :: ps.drop (i + 1) := by rw [List.drop_eq_getElem_cons h1, emAt_get ps i h1]
    have l1 : m.lookup (i + 1, k) = comF (ps.drop (i + 1)) (qs.drop k) := by rw [h _ _ h1 hk, if_pos (by omega)]
    by_cases h2 : k < qs.length
    · have d2 : qs.drop k = emAt qs k :: qs.drop (k + 1) := by rw [List.drop_eq_getElem_cons h2, emAt_get qs k h2]
      have l2 : m.lookup (i, k + 1) = comF (ps.drop i) (qs.drop (k + 1)) := by rw [h _ _ hi h2, if_pos (by omega)]
      have l3 : m.lookup (i + 1, k + 1) = comF (ps.drop (i + 1)) (qs.drop (k + 1)) := by rw [h _ _ h1 h2, if_pos (by omega)]
      rw [if_neg (by omega)]
      have hR : comF (ps.drop i) (qs.drop k) = restF (emAt ps i) (emAt qs k) (m.lookup (i + 1, k)) (m.lookup (i, k + 1)) (m.lookup (i + 1, k + 1)) := by
        rw [l1, l2, l3, d1, d2, comF, comRow]
      rw [hR, restF]
      simp only [h1, h2, decide_true, Bool.true_and, not_true_eq_false, false_or]
      rcases hx : (emAt ps i).isStar with _ | _ <;> rcases hy : (emAt qs k).isStar with _ | _ <;> simp <;> (cases smallF (emAt ps i) (emAt qs k) <;> rfl)
    · have hkq : k = qs.length := by omega
      have d2 : qs.drop k = [] := by rw [hkq, List.drop_length]
      rw [if_neg (by omega), d1, d2, comF, comRow]
      simp only [h1, h2, decide_true, decide_false, Bool.true_and, Bool.false_and, not_true_eq_false, not_false_eq_true, true_or, or_true, if_true]
      rw [l1, d2]
      rcases hx : (emAt ps i).isStar with _ | _ <;> simp
  · have hip : i = ps.length := by omega
    have d1 : ps.drop i = [] := by rw [hip, List.drop_length]
    by_cases h2 : k < qs.length
    · have d2 : qs.drop k = emAt qs k :: qs.drop (k + 1) := by rw [List.drop_eq_getElem_cons h2, emAt_get qs k h2]
      have l2 : m.lookup (i, k + 1) = comF (ps.drop i) (qs.drop (k + 1)) := by rw [h _ _ hi h2, if_pos (by omega)]
      rw [if_neg (by omega), d1, d2]
      simp only [h1, h2, decide_true, decide_false, Bool.true_and, Bool.false_and, not_true_eq_false, not_false_eq_true, true_or, if_true]
      rw [l2, d1]
      simp only [comF, comNil]
      rcases hy : (emAt qs k).isStar with _ | _ <;> simp
    · have hkq : k = qs.length := by omega
      have d2 : qs.drop k = [] := by rw [hkq, List.drop_length]
      rw [if_pos ⟨h1, h2⟩, d1, d2]
      rfl
/-- The table from row i on, and from place k of row i on. -/
def Rows_ (ps qs : List Em) (i : Nat) (m : PosMap) : Prop := (∀ a b, a ≤ ps.length → b ≤ qs.length → m.lookup (a, b) = if i ≤ a then comF (ps.drop a) (qs.drop b) else none) ∧ ∀ x v, m.lookup x = some v → v.length ≤ 500
def Places (ps qs : List Em) (i k : Nat) (m : PosMap) : Prop := (∀ a b, a ≤ ps.length → b ≤ qs.length → m.lookup (a, b) = if i < a ∨ (a = i ∧ k ≤ b) then comF (ps.drop a) (qs.drop b) else none) ∧ ∀ x v, m.lookup x = some v → v.length ≤ 500
theorem Rows_.places {ps qs : List Em} {i : Nat} {m : PosMap} (h : Rows_ ps qs (i + 1) m) : Places ps qs i (qs.length + 1) m := by
  refine ⟨fun a b ha hb => ?_, h.2⟩
  rw [h.1 a b ha hb]
  by_cases hc : i + 1 ≤ a
  · rw [if_pos hc, if_pos (by omega)]
  · rw [if_neg hc, if_neg (by omega)]
theorem Places.rows {ps qs : List Em} {i : Nat} {m : PosMap} (h : Places ps qs i 0 m) : Rows_ ps qs i m := by
  refine ⟨fun a b ha hb => ?_, h.2⟩
  rw [h.1 a b ha hb]
  by_cases hc : i ≤ a
  · rw [if_pos hc, if_pos (by omega)]
  · rw [if_neg hc, if_neg (by omega)]
theorem Places.step {ps qs : List Em} {i k : Nat} {m : PosMap} (h : Places ps qs i (k + 1) m) (hi : i ≤ ps.length) (hk : k ≤ qs.length) (hl : ps.length + qs.length ≤ 500) :
    stepF ps qs m i k = comF (ps.drop i) (qs.drop k) ∧ m.lookup (i, k) = none ∧ (comF (ps.drop i) (qs.drop k) = none → Places ps qs i k m) ∧ ∀ v, comF (ps.drop i) (qs.drop k) = some v → Places ps qs i k (m ++ [((i, k), v)]) := by
  have hB : Behind ps qs i k m := fun a b ha hb => by
    rw [h.1 a b ha hb]
    by_cases hc : i < a ∨ (a = i ∧ k < b)
    · rw [if_pos hc, if_pos (by omega)]
    · rw [if_neg hc, if_neg (by omega)]
  have h0 : m.lookup (i, k) = none := by rw [h.1 i k hi hk, if_neg (by omega)]
  refine ⟨comF_step ps qs i k m hi hk hB, h0, fun hn => ⟨fun a b ha hb => ?_, h.2⟩, fun v hv => ⟨fun a b ha hb => ?_, fun x u hu => ?_⟩⟩
  · rw [hB a b ha hb]
    by_cases hc : i < a ∨ (a = i ∧ k < b)
    · rw [if_pos hc, if_pos (by omega)]
    · rw [if_neg hc]
      by_cases hd : i < a ∨ (a = i ∧ k ≤ b)
      · have e1 : a = i := by omega
        have e2 : b = k := by omega
        subst e1 e2; rw [if_pos hd, hn]
      · rw [if_neg hd]
  · rw [lookup_snoc m _ _ _ h0]
    by_cases he : (a, b) = (i, k)
    · injection he with e1 e2; subst e1 e2; rw [if_pos rfl, if_pos (by omega), hv]
    · rw [if_neg he, hB a b ha hb]
      have hne : ¬ (a = i ∧ b = k) := fun e => he (by rw [e.1, e.2])
      by_cases hc : i < a ∨ (a = i ∧ k < b)
      · rw [if_pos hc, if_pos (by omega)]
      · rw [if_neg hc, if_neg (by omega)]
  · rw [lookup_snoc m _ _ _ h0] at hu
    by_cases he : x = (i, k)
    · rw [if_pos he] at hu; injection hu with hu; subst hu
      have := comF_len _ _ _ hv
      simp only [List.length_drop] at this; omega
    · rw [if_neg he] at hu; exact h.2 x u hu
end Go.Proofs.YtcknomaaikeebaaDoor
