/- Lemmas and walks, part 43. -/
import Derived.Test.YtannhfnpigiggaaGreatDoorPs3
import Derived.Deep.Slices
import Derived.Deep.Fields
import Derived.ChangeSame
import Derived.SliceStrings
import Derived.ProofKit
import Derived.OpenShut
namespace Go.Proofs.YtannhfnpigiggaaGreatDoor
set_option linter.unusedSimpArgs false
set_option linter.unusedVariables false
open Go.ChangeShapes Go.WideShapes Go.ChangeAt Go.RowKit Go.Deep

theorem spot_none {w : World} {a : Addr} {v : Value} (h : w.cell? a = some v) : a.spot = none := by
  cases hs : a.spot with
  | none => rfl
  | some n =>
    unfold World.cell? at h
    split at h
    · simp [hs] at h
    · cases h

def SizedS (l : List (List UInt8)) (c : Nat) : Prop := l.length ≤ c ∧ c ≤ maxLen ∧ ∀ x ∈ l, x.length ≤ maxLen
section
variable {H : Type} {enc : TypeId × Value → H} {P : Program} {w : World} {r : Reach}
theorem open_strs {b0 : Nat} {t e : TypeId} {v : Value} {d : DataW H} {p : List MemPlace} (ht : P.underlying t = some (.slice e)) (he : P.underlying e = some .string) (hC : P.cellsOf e = 1)
    (hv : Value.okWide P w r b0 t v) (h : DataW.Trod enc P w 0 (fun _ => true) true t v d p) :
    ∃ A l c, v = .slice A l.length c ∧ Row w A (strsL l) ∧ SizedS l c := by
  obtain ⟨a0, len, cap, rfl⟩ := okWide_slice ht hv
  obtain ⟨fuel, hf⟩ := h
  rcases open_strings ht he hC hf with ⟨hcs, hx⟩ | ⟨a, len', cap', ss, hcs, hb, hl, hm, hlen, hx, hcell, hsz⟩
  · simp [Value.cells] at hcs
    obtain ⟨rfl, rfl, rfl⟩ := hcs
    exact ⟨none, [], 0, rfl, Row.nil _ _, by simp, by simp [maxLen], by simp⟩
  · simp [Value.cells] at hcs
    obtain ⟨rfl, rfl, rfl⟩ := hcs
    have hlen' : ss.length = cap := by simpa using hlen
    refine ⟨some a, (ss.take len).map toL, cap, by simp; omega, ?_, by simp; omega, hm, fun x hx => ?_⟩
    · by_cases hz : len = 0
      · subst hz; exact .inl (by simp)
      · have hc0 := hcell 0 (by omega)
        have hsp := spot_none hc0
        have hlt := World.block_lt_of_cell? w _ hc0
        obtain ⟨bb, off, sp⟩ := a
        have hsp' : sp = none := by simpa [Addr.add] using hsp
        subst hsp'
        have hadd : ∀ j, (⟨bb, off, none⟩ : Addr).add j = ⟨bb, off + j, none⟩ := fun j => by
          unfold Addr.add
          split
          · rename_i h; subst h; rfl
          · rfl
        rw [hadd] at hlt
        refine Row.mk _ _ _ _ hlt fun j u hu => ?_
        have hj : j < len := by
          rcases Nat.lt_or_ge j len with h' | h'
          · exact h'
          · rw [List.getElem?_eq_none (by simp; omega)] at hu; cases hu
        have := hcell j (by omega)
        rw [hadd] at this
        rw [this]
        have hjs : j < ss.length := by omega
        simp [hj, hjs, ofL_toL] at hu
        rw [← hu]; simp [List.getD, hjs]
    · simp only [List.mem_map] at hx
      obtain ⟨s, hs, rfl⟩ := hx
      rw [toL_length]; exact hsz s (List.mem_of_mem_take hs)
end
end Go.Proofs.YtannhfnpigiggaaGreatDoor
