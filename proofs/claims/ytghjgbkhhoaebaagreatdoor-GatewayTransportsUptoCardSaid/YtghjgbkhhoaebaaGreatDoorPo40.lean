/- Lemmas and walks, part 40. -/
import Derived.Test.YtghjgbkhhoaebaaGreatDoorPo28
import Derived.Test.YtghjgbkhhoaebaaGreatDoorPo17
import Derived.Test.YtghjgbkhhoaebaaGreatDoorPo1
namespace Go.Proofs.YtghjgbkhhoaebaaGreatDoor
set_option linter.unusedSimpArgs false
set_option linter.unusedVariables false
open Go.RowKit

theorem isBuilder_below {T e : TypeId} {B b : Nat} {bs : List Value} {w w' : World} (h : Lib.IsBuilder T e B b bs w) (hb : Below w.heap.size w w') : Lib.IsBuilder T e B b bs w' := by
  have hh : ∀ p, Lib.BuilderAt T e B b p bs w → Lib.BuilderAt T e B b p bs w' := by
    rintro p ⟨hB, v, hk, hown, hne⟩
    exact ⟨hB, v, (hb.block b (heap_lt hk)).trans hk, own_below hown hb, hne⟩
  rcases h with h | h
  · exact .inl (hh _ h)
  · exact .inr (hh _ h)

structure FoldWr (n b : ByteArray) (w wr : World) (b0 k : Nat) (A : Option Addr) (c : Nat) (line : ByteArray) : Prop where
  ex : ∃ out, Lib.IsBuilder 91 5 b0 b0 (Lib.byteCells out) wr ∧ b0 ≤ wr.heap.size ∧ w.heap.size ≤ b0 ∧ Below w.heap.size w wr ∧
    wr.ownsRow w.heap.size 9 1 (.slice A (words (toL b)).length c) (words (toL b)).length (strsL (words (toL b))) ∧ FoldAt (foldF (toL n) (toL b)) (words (toL b)) k out (toL line)

end Go.Proofs.YtghjgbkhhoaebaaGreatDoor

namespace Go.Proofs.YtghjgbkhhoaebaaGreatDoor
set_option linter.unusedSimpArgs false
set_option linter.unusedVariables false
open Go.RowKit

abbrev fldsV (l : List Fd) : List Value := l.flatMap fun f => [.string (ofL f.1), .string (ofL f.2)]
theorem fldsV_length (l : List Fd) : (fldsV l).length = l.length * 2 := by
  induction l with
  | nil => rfl
  | cons x r ih => simp [fldsV] at ih ⊢; omega
theorem fldsV_at (l : List Fd) (k : Nat) (h : k < l.length) : (fldsV l)[k * 2]? = some (.string (ofL l[k].1)) ∧ (fldsV l)[k * 2 + 1]? = some (.string (ofL l[k].2)) := by
  induction l generalizing k with
  | nil => simp at h
  | cons x r ih =>
    cases k with
    | zero => simp [fldsV]
    | succ k =>
      have := ih k (by simpa using h)
      simp only [fldsV, List.flatMap_cons] at this ⊢
      rw [show (k + 1) * 2 = k * 2 + 2 from by omega, List.getElem?_append_right (by simp), List.getElem?_append_right (by simp)]
      simpa using this

/-- The two cells of element k. -/
theorem Row.field {w : World} {A : Option Addr} {l : List Fd} (h : Row w A (fldsV l)) {k : Nat} (hk : k < l.length) :
    ∃ b off, A = some ⟨b, off, none⟩ ∧ w.cell? ⟨b, off + k * 2, none⟩ = some (.string (ofL l[k].1)) ∧ w.cell? ⟨b, off + k * 2 + 1, none⟩ = some (.string (ofL l[k].2)) := by
  obtain ⟨b, off, e, _, hc⟩ := h.at (k := 0) (by rw [fldsV_length]; omega)
  obtain ⟨h1, h2⟩ := fldsV_at l k hk
  exact ⟨b, off, e, hc _ _ h1, by rw [Nat.add_assoc]; exact hc _ _ h2⟩

theorem Row.field' {w : World} {bb off : Nat} {l : List Fd} (h : Row w (some ⟨bb, off, none⟩) (fldsV l)) {k : Nat} (hk : k < l.length) {n b : ByteArray} (hn : ofL l[k].1 = n) (hb : ofL l[k].2 = b) :
    w.cell? ⟨bb, off + k * 2, none⟩ = some (.string n) ∧ w.cell? ⟨bb, off + k * 2 + 1, none⟩ = some (.string b) := by
  obtain ⟨b', off', e, h1, h2⟩ := h.field hk
  injection e with e; injection e with e1 e2
  subst e1; subst e2; subst hn; subst hb
  exact ⟨h1, h2⟩

/-- Texts that no step makes too long. -/
def Mild (l : List Fd) : Prop := l.length ≤ 1000 ∧ ∀ f ∈ l, f.1.length ≤ 1100000 ∧ f.2.length ≤ 1100000

/-- The text of the first fields, or the first error. -/
def printGo : List Fd → List UInt8 → List UInt8 × Int
  | [], out => if 65536 < out.length then ([], 5) else (out, 0)
  | f :: r, out => if checkF f.1 f.2 ≠ 0 then ([], checkF f.1 f.2) else printGo r (out ++ foldF f.1 f.2)
def printF (l : List Fd) : List UInt8 × Int := if 64 < l.length then ([], 9) else printGo l []

end Go.Proofs.YtghjgbkhhoaebaaGreatDoor
