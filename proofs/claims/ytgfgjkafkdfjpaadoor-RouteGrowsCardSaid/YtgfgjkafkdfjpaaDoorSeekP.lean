/- Plain: the first index with a property; the names of sites. No program here. -/
import Derived.Test.YtgfgjkafkdfjpaaDoorBytes
import Derived.Test.YtgfgjkafkdfjpaaDoorText
namespace Go.Proofs.YtgfgjkafkdfjpaaDoor
set_option linter.unusedSimpArgs false
set_option linter.unusedVariables false

/-- The first index from k on, below n, with the property; n (or k) if there is none. -/
def seekN (p : Nat → Bool) (n k : Nat) : Nat := k + ((List.range' k (n - k)).takeWhile fun i => !p i).length
theorem seekN_end (p : Nat → Bool) (n k : Nat) (h : n ≤ k) : seekN p n k = k := by
  simp [seekN, show n - k = 0 from by omega]
theorem seekN_stop (p : Nat → Bool) (n k : Nat) (h : k < n) (hp : p k = true) : seekN p n k = k := by
  rw [seekN, show n - k = (n - (k + 1)) + 1 from by omega, List.range'_succ]; simp [hp]
theorem seekN_step (p : Nat → Bool) (n k : Nat) (h : k < n) (hp : p k = false) : seekN p n k = seekN p n (k + 1) := by
  rw [seekN, seekN, show n - k = (n - (k + 1)) + 1 from by omega, List.range'_succ]; simp [hp]; omega
theorem seekN_ge (p : Nat → Bool) (n k : Nat) : k ≤ seekN p n k := by simp [seekN]
theorem seekN_le (p : Nat → Bool) (n k : Nat) (h : k ≤ n) : seekN p n k ≤ n := by
  have := (List.takeWhile_prefix (l := List.range' k (n - k)) (fun i => !p i)).length_le
  simp [seekN] at *; omega
theorem seekN_none (p : Nat → Bool) (n : Nat) : ∀ k, k ≤ n → (seekN p n k = n ↔ ∀ i, k ≤ i → i < n → p i = false) := by
  intro k hk
  obtain ⟨d, hd⟩ : ∃ d, d = n - k := ⟨_, rfl⟩
  induction d generalizing k with
  | zero => rw [seekN_end p n k (by omega)]; constructor
            · intro _ i h1 h2; omega
            · intro _; omega
  | succ d ih =>
    cases hp : p k with
    | true =>
      rw [seekN_stop p n k (by omega) hp]
      constructor
      · intro h; omega
      · intro h; have := h k (Nat.le_refl _) (by omega); rw [hp] at this; cases this
    | false =>
      rw [seekN_step p n k (by omega) hp, ih (k + 1) (by omega) (by omega)]
      constructor
      · intro h i h1 h2
        rcases Nat.lt_or_ge k i with h3 | h3
        · exact h i (by omega) h2
        · obtain rfl : i = k := by omega
          exact hp
      · intro h i h1 h2; exact h i (by omega) h2

def permitted (c : Int) : Bool := isLower c || isDigit c || (c == 45) || (c == 46)
def byteAt (l : List UInt8) (i : Nat) : Int := num (l.getD i 0)
def misplaced (l : List UInt8) (i : Nat) : Bool :=
  (decide (i = 0) && !isLower (byteAt l i)) || (decide (0 < i) && (byteAt l i == 46) && (byteAt l (i - 1) == 46)) || (decide (i + 1 = l.length) && ((byteAt l i == 45) || (byteAt l i == 46)))
/-- The offset and the kind of the first error of a site's name. -/
def siteF (l : List UInt8) : Nat × Int :=
  if l.length = 0 then (0, 4) else if 30 < l.length then (30, 5) else
  if seekN (fun i => !permitted (byteAt l i)) l.length 0 < l.length then (seekN (fun i => !permitted (byteAt l i)) l.length 0, 6) else
  if seekN (misplaced l) l.length 0 < l.length then (seekN (misplaced l) l.length 0, 12) else (0, 0)
theorem byteAt_eq (s : ByteArray) (k : Nat) (h : k < s.size) : byteAt (toL s) k = num s[k] := by
  rw [byteAt, List.getD, List.getElem?_eq_getElem (by rw [toL_length]; exact h), toL_getElem s k h]; rfl

theorem site_ok (l : List UInt8) (h : (siteF l).2 = 0) : 0 < l.length ∧ l.length ≤ 30 ∧ ∀ i, i < l.length → permitted (byteAt l i) = true := by
  unfold siteF at h
  split at h
  · simp at h
  · split at h
    · simp at h
    · split at h
      · simp at h
      · rename_i h1 h2 h3
        refine ⟨by omega, by omega, fun i hi => ?_⟩
        have h4 := seekN_le (fun i => !permitted (byteAt l i)) l.length 0 (by omega)
        have := (seekN_none (fun i => !permitted (byteAt l i)) l.length 0 (by omega)).1 (by omega) i (by omega) hi
        simpa using this
end Go.Proofs.YtgfgjkafkdfjpaaDoor
