/- cut at a slice of one field. -/
import Derived.Test.YtaigbplfbfaghaaConv
namespace Go.Proofs.Ytaigbplfbfaghaa
set_option linter.unusedSimpArgs false
set_option linter.unusedVariables false
open Go.RowKit

theorem row_block {w : World} {g : Nat} {n b : ByteArray} {t : TypeId} {fr : Nat × Nat} (h : w.heap[g]? = some (.cells #[.string n, .string b] t fr)) : Row w (some ⟨g, 0, none⟩) (fldsV [(toL n, toL b)]) := by
  refine Row.mk _ _ _ _ (heap_lt h) fun j v hv => ?_
  rw [Nat.zero_add, Lib.cell_of_heap h]
  simpa [fldsV, ofL_toL] using hv

theorem cut_one (g : Nat) (n b : ByteArray) (w : World) {fr : Nat × Nat} (h : w.heap[g]? = some (.cells #[.string n, .string b] 25 fr)) (hn : n.size ≤ maxLen) (hb : b.size ≤ maxLen) :
    Calls Try.prog 14 #[.slice (some ⟨g, 0, none⟩) 1 1] w fun e w' => ∃ gg cap n' b', e = .returned (.slice (some ⟨gg, 0, none⟩) 1 cap) ∧ toL n' = (toL n).take 60 ∧ toL b' = (toL b).take 9000 ∧ n'.size ≤ 60 ∧ b'.size ≤ 9000 ∧
      w'.cell? ⟨gg, 0, none⟩ = some (.string n') ∧ w'.cell? ⟨gg, 1, none⟩ = some (.string b') ∧ gg < w'.heap.size ∧ Below w.heap.size w w' := by
  have hc : Calls Try.prog 14 #[.slice (some ⟨g, 0, none⟩) 1 1] w fun e w' => ∃ v, e = .returned v ∧ FldsOwn w w' 25 v (cutList [(toL n, toL b)]) :=
    law_cut _ _ 1 _ (row_block h) ⟨by simp [maxLen], fun f hf => by simp at hf; subst hf; exact ⟨by rw [toL_length]; exact hn, by rw [toL_length]; exact hb⟩⟩
  refine hc.mono ?_
  rintro e w' ⟨v, rfl, hF⟩
  have e1 : cutList [(toL n, toL b)] = [((toL n).take 60, (toL b).take 9000)] := rfl
  have hown := hF.own
  rw [e1] at hown
  rcases own_form hown with ⟨_, h0⟩ | ⟨gg, cap, rfl, hg, hlt, hcap, hcell⟩
  · simp at h0
  · refine ⟨gg, cap, ofL ((toL n).take 60), ofL ((toL b).take 9000), rfl, toL_ofL _, toL_ofL _, ?_, ?_, hcell 0 _ rfl, hcell 1 _ rfl, hlt, hF.bel⟩
    · rw [ofL_size, List.length_take]; omega
    · rw [ofL_size, List.length_take]; omega

end Go.Proofs.Ytaigbplfbfaghaa
