/- Plain: bounds for what was parsed and printed. -/
import Derived.Test.YtcohgjdijhogbaaGreatPrintP
import Derived.Test.YtcohgjdijhogbaaGreatPt18
namespace Go.Proofs.YtcohgjdijhogbaaGreat
set_option linter.unusedSimpArgs false
set_option linter.unusedVariables false

theorem pLoop_inv (l : List UInt8) : ∀ (n : Nat) (st : PSt) (frm : Nat), PInv l st → PInv l (pLoop validName n l st frm) := by
  intro n
  induction n with
  | zero => intro st frm h; exact h
  | succ n ih =>
    intro st frm h
    rw [pLoop]
    split
    · rename_i hc
      exact ih _ _ (round_pre l st frm (by omega) h).2.2.1
    · exact h
theorem parseF_len (l : List UInt8) : (parseF l).1.length ≤ 64 := by
  have h := pLoop_inv l (l.length + 1) pInit 0 ⟨by simp [pInit], fun _ => ⟨by simp [pInit], by simp [pInit, lastBody]⟩⟩
  unfold parseF parseV
  split
  · simp
  · split
    · simp
    · rename_i h1 h2
      exact (h.2 (by simpa using h2)).1

theorem good_mild (l : List Fd) (h : ∀ f ∈ l, GoodF f) (h6 : l.length ≤ 64) : Mild l := by
  refine ⟨by omega, fun f hf => ⟨?_, ?_⟩⟩
  · have := (h f hf).name
    cases hn : f.1 with
    | nil => simp
    | cons c r => rw [hn] at this; simp [validName] at this; simp; omega
  · have := (h f hf).len; omega

theorem parF_len (L : List UInt8) : (parF L).fields.length ≤ 64 ∧ (parF L).body.length ≤ L.length := by
  have := parseF_len (newF L).1
  unfold parF
  repeat' split
  all_goals simp [this]
theorem parF_mild (L : List UInt8) : Mild (parF L).fields := by
  refine good_mild _ (fun f hf => ?_) (parF_len L).1
  unfold parF at hf
  split at hf
  · simp at hf
  · split at hf
    · simp at hf
    · rename_i g
      split at hf
      · simp at hf
      · split at hf
        · simp at hf
        · exact (parse_good (newF L).1 (by simpa using g)).1 f hf
theorem parF_at (L : List UInt8) (h : (parF L).e = 0) : (parF L).at_ = 0 := by
  unfold parF at h ⊢
  split at h
  · simp at h
  · rename_i g1
    rw [if_neg g1]
    split at h
    · rename_i g; exact absurd h g
    · rename_i g2
      rw [if_neg g2]
      split at h
      · simp at h
      · rename_i g3
        rw [if_neg g3]
        split at h
        · rename_i g; exact absurd h g
        · rename_i g4
          rw [if_neg g4]
theorem priF_le (l : List Fd) (b : List UInt8) : (priF l b).1.length ≤ 65536 := by
  unfold priF
  repeat' split
  all_goals first | (simp; done) | (simp only [List.length_append, List.length_cons]; omega)
/-- Printing what was parsed and parsing it again. -/
theorem par_again (L : List UInt8) (hl : L.length ≤ 30000) (h : (parF L).e = 0) : (priF (parF L).fields (parF L).body).2 = 5 ∨ ((priF (parF L).fields (parF L).body).2 = 0 ∧ parF (priF (parF L).fields (parF L).body).1 = ⟨(parF L).fields, (parF L).body, 0, 0⟩) := by
  rcases pri_par L hl h (parF_len L).1 with g | g
  · exact .inr ⟨g, par_pri _ _ g⟩
  · exact .inl g
end Go.Proofs.YtcohgjdijhogbaaGreat
