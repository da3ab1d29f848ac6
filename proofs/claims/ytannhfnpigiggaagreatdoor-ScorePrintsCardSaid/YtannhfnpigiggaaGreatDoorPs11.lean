/- Lemmas and walks, part 11. -/
import Derived.Test.YtannhfnpigiggaaGreatDoorPs6
namespace Go.Proofs.YtannhfnpigiggaaGreatDoor
set_option linter.unusedSimpArgs false
set_option linter.unusedVariables false

theorem endF_ge (L : List UInt8) (i : Nat) : i ≤ endF L i := by unfold endF; omega
theorem endF_le (L : List UInt8) (i : Nat) (h : i ≤ L.length) : endF L i ≤ L.length := by
  unfold endF
  have : ((L.drop i).takeWhile (· != 10)).length ≤ (L.drop i).length := (List.takeWhile_sublist _).length_le
  rw [List.length_drop] at this; omega
/-- Where the lines begin and end, from i on. -/
def spansU : Nat → List UInt8 → Nat → List (Nat × Nat)
  | 0, _, _ => []
  | k + 1, L, i => if i < L.length then (i, endF L i) :: spansU k L (endF L i + 1) else []
def spans (L : List UInt8) (i : Nat) : List (Nat × Nat) := spansU (L.length + 1) L i
theorem spansU_fuel : ∀ (n m : Nat) (L : List UInt8) (i : Nat), L.length < n + i → L.length < m + i → spansU n L i = spansU m L i
  | 0, 0, _, _, _, _ => rfl
  | 0, m + 1, L, i, h, _ => by rw [spansU, spansU, if_neg (by omega)]
  | n + 1, 0, L, i, _, h => by rw [spansU, spansU, if_neg (by omega)]
  | n + 1, m + 1, L, i, h1, h2 => by
    rw [spansU, spansU]
    by_cases h : i < L.length
    · have := endF_ge L i
      rw [if_pos h, if_pos h, spansU_fuel n m L _ (by omega) (by omega)]
    · rw [if_neg h, if_neg h]
theorem spans_step {L : List UInt8} {i : Nat} (h : i < L.length) : spans L i = (i, endF L i) :: spans L (endF L i + 1) := by
  have := endF_ge L i
  unfold spans
  rw [spansU, if_pos h, spansU_fuel L.length (L.length + 1) L _ (by omega) (by omega)]
theorem spans_end {L : List UInt8} {i : Nat} (h : L.length ≤ i) : spans L i = [] := by
  unfold spans; rw [spansU, if_neg (by omega)]
/-- The first error of a body among lines. -/
def bodyGo (L : List UInt8) : List (Nat × Nat) → Nat × Int
  | [] => (0, 0)
  | x :: r => if x.2 = L.length then (L.length, 4) else if 998 < x.2 - x.1 then (x.1 + 998, 5) else if 0 ≤ badG (cutL L x.1 x.2) then (x.1 + (badG (cutL L x.1 x.2)).toNat, 6) else bodyGo L r
def bodyF (L : List UInt8) : Nat × Int := bodyGo L (spans L 0)
theorem badG_ge (L : List UInt8) : -1 ≤ badG L := by
  unfold badG; split
  · omega
  · split <;> omega
theorem allU_off : ∀ (n : Nat) (l : List UInt8) (i : Nat), (∀ x ∈ (allU n l i).1, x.1 ≤ i + l.length) ∧ ∀ y, (allU n l i).2 = some y → y.1 ≤ i + l.length
  | 0, l, i => by simp [allU]
  | n + 1, [], i => by simp [allU]
  | n + 1, c :: r, i => by
    rw [allU]
    by_cases h : (decU (c :: r)).2.2 ≠ 0
    · rw [if_pos h]
      exact ⟨by simp, fun y e => by injection e with e; subst e; simp⟩
    · rw [if_neg h]
      have hk := decU_ok (l := c :: r) (by omega)
      obtain ⟨h1, h2⟩ := allU_off n ((c :: r).drop (decU (c :: r)).2.1) (i + (decU (c :: r)).2.1)
      rw [List.length_drop] at h1 h2
      refine ⟨fun x hx => ?_, fun y e => ?_⟩
      · rcases List.mem_cons.1 hx with rfl | hx
        · simp
        · have := h1 x hx; omega
      · have := h2 y e; omega
theorem badG_le (L : List UInt8) : badG L ≤ L.length := by
  obtain ⟨h1, h2⟩ := allU_off (L.length + 1) L 0
  unfold badG
  split
  · rename_i x hx
    have := h1 x (List.mem_of_find?_eq_some hx); omega
  · split
    · rename_i y hy
      have := h2 y hy; omega
    · omega
end Go.Proofs.YtannhfnpigiggaaGreatDoor

namespace Go.Proofs.YtannhfnpigiggaaGreatDoor
set_option linter.unusedSimpArgs false
set_option linter.unusedVariables false
open Go.RowKit

end Go.Proofs.YtannhfnpigiggaaGreatDoor

namespace Go.Proofs.YtannhfnpigiggaaGreatDoor
set_option linter.unusedSimpArgs false
set_option linter.unusedVariables false
open Go.RowKit

/-- The lines' texts. -/
def linesF (L : List UInt8) : List (List UInt8) := (spans L 0).map fun x => cutL L x.1 x.2
theorem el_str4 : Elem Tryz.prog 24 9 1 16 := Elem.of Tryz.underlying24 (z := .string ⟨#[]⟩) (by kernel_rfl) rfl (by omega)
theorem spans_len : ∀ (n : Nat) (L : List UInt8) (i : Nat), (spansU n L i).length ≤ n
  | 0, _, _ => by simp [spansU]
  | n + 1, L, i => by
    rw [spansU]; split
    · have := spans_len n L (endF L i + 1); simp; omega
    · simp
structure StrO (w wr : World) (v : Value) (l : List (List UInt8)) : Prop where
  own : wr.ownsRow w.heap.size 9 1 v l.length (strsL l)
  bel : Below w.heap.size w wr
end Go.Proofs.YtannhfnpigiggaaGreatDoor

namespace Go.Proofs.YtannhfnpigiggaaGreatDoor
set_option linter.unusedSimpArgs false
set_option linter.unusedVariables false
open Go.RowKit

def levN (L : List UInt8) : Nat := (L.takeWhile (· == 62)).length
def levR (L : List UInt8) : List UInt8 := if 0 < levN L ∧ (L.drop (levN L))[0]? = some 32 then L.drop (levN L + 1) else L.drop (levN L)
/-- The marks from k on. -/
def levK (L : List UInt8) (k : Nat) : Nat := k + ((L.drop k).takeWhile (· == 62)).length
theorem levK_zero (L : List UInt8) : levN L = levK L 0 := by simp [levN, levK]
theorem levK_step {s : ByteArray} {k : Nat} (h : k < s.size) : levK (toL s) k = if s[k]'h = 62 then levK (toL s) (k + 1) else k := by
  have hl : k < (toL s).length := by rw [toL_length]; exact h
  unfold levK
  rw [List.drop_eq_getElem_cons hl, List.takeWhile_cons, toL_getElem s k h]
  by_cases e : s[k]'h = 62
  · rw [if_pos e, e]; simp; omega
  · have : (s[k]'h == 62) = false := by simpa using e
    rw [if_neg e, this]; simp
theorem levK_end {s : ByteArray} {k : Nat} (h : s.size ≤ k) : levK (toL s) k = k := by
  unfold levK; rw [List.drop_eq_nil_of_le (by rw [toL_length]; exact h)]; rfl
theorem levN_le (s : ByteArray) : levN (toL s) ≤ s.size := by
  rw [← toL_length s]; exact (List.takeWhile_sublist _).length_le
end Go.Proofs.YtannhfnpigiggaaGreatDoor
