/- 's[k:]' under one name. No program here. -/
import Derived.Test.YtgfgjkafkdfjpaaDoorMem3
namespace Go.Proofs.YtgfgjkafkdfjpaaDoor
set_option linter.unusedSimpArgs false
set_option linter.unusedVariables false
open Go.RowKit

/-- What 's[k:]' of a slice of strings is, whatever the capacity. -/
structure TailIs (P : Program) (t : TypeId) (A : Option Addr) (l : List (List UInt8)) (c k : Nat) (i : Int) (A2 : Option Addr) : Prop where
  at_ : ∀ w, (Instr.sliceAt t (.slice A l.length c) (some (.int .i64 i)) none none).run P w = .ok (.slice A2 (l.length - k) (c - k)) w
  of_ : ∀ w, (Instr.slice t (.slice A l.length c) (some (.int .i64 i)) none none).run P w = .ok (.slice A2 (l.length - k) (c - k)) w
  row : ∀ w, Row w A (strsL l) → Row w A2 (strsL (l.drop k))

theorem tail_is {P : Program} {t : TypeId} (hu : P.underlying t = some (.slice (P.elem t))) (hs : ∀ w, (sizeOf (P.elem t)).run P w = .ok 1 w) (A : Option Addr) (l : List (List UInt8)) (c k : Nat) (i : Int) (hi : i = k) (hk : k ≤ l.length) (hc : l.length ≤ c) :
    ∃ A2, TailIs P t A l c k i A2 := by
  subst hi
  have h2 : ∀ w, (Instr.slice t (.slice A l.length c) (some (.int .i64 (k : Int))) none none).run P w = .ok (.slice (if c = k then A else A.map (·.add (k * 1))) (l.length - k) (c - k)) w := fun w => by
    rw [run_slice_l (P := P) w t A l.length c hu .i64 (k : Int) (by omega) (by omega), hs]
    simp [Result.andThen, sliced]
  refine ⟨if c = k then A else A.map (·.add (k * 1)), ⟨fun w => by rw [run_sliceAt_slice (P := P) w t _ _ _ _ hu]; exact h2 w, h2, fun w hr => ?_⟩⟩
  by_cases h : c = k
  · rw [if_pos h]
    have : l.drop k = [] := List.drop_eq_nil_of_le (by omega)
    rw [this]; exact .inl rfl
  · rw [if_neg h]
    rcases hr with h0 | ⟨b, off, rfl, hb, hc⟩
    · have : l = [] := by simpa using h0
      subst this; exact .inl (by simp)
    · have e : (⟨b, off, none⟩ : Addr).add (k * 1) = ⟨b, off + k, none⟩ := by
        rw [Nat.mul_one]; unfold Addr.add; split
        · rename_i h; subst h; rfl
        · rfl
      simp only [Option.map_some, e]
      refine Row.mk _ _ _ _ hb fun j v hv => ?_
      simp only [strsL, List.map_drop, List.getElem?_drop] at hv
      rw [Nat.add_assoc]; exact hc _ _ hv
end Go.Proofs.YtgfgjkafkdfjpaaDoor
