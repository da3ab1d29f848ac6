/- The walk over the reference's Common. -/
import Derived.Test.YtcknomaaikeebaaDoorWmQB
import Derived.Test.YtcknomaaikeebaaDoorWmR
import Derived.Deep.DeepCutAuto
import Derived.Deep.RegionHeld3
namespace Go.Proofs.YtcknomaaikeebaaDoor
set_option linter.unusedSimpArgs false
set_option linter.unusedVariables false
open Go.RowKit

abbrev slV (m : Nat) (R : Nat → Nat) : Nat → Value := fun i => .slice (some ⟨R i, 0, none⟩) (m + 1) (m + 1)
abbrev stV (f : Nat → Option Bs) : Nat → Value := fun j => .string (sOf (f j))
abbrev bV (f : Nat → Option Bs) : Nat → Value := fun j => .bool (f j).isSome
/-- The table, its rows from k on. -/
structure TabAt (W : World) (p q : List Em) (rb sb : Nat) (R S : Nat → Nat) (k : Nat) (wr : World) : Prop where
  rest : LAt wr 54 rb (pRow (slV q.length R) (.slice none 0 0) p.length k)
  is : LAt wr 67 sb (pRow (slV q.length S) (.slice none 0 0) p.length k)
  rowR : ∀ i, k ≤ i → i ≤ p.length → LAt wr 9 (R i) (pRow (stV (tabF p q i)) (.string ⟨#[]⟩) q.length 0)
  rowS : ∀ i, k ≤ i → i ≤ p.length → LAt wr 4 (S i) (pRow (bV (tabF p q i)) (.bool false) q.length 0)
  bel : Below W.heap.size W wr
/-- Row j while it is filled, its places from k on. -/
structure RowAt (W W1 : World) (f : Nat → Option Bs) (m r s k : Nat) (wr : World) : Prop where
  row : LAt wr 9 r (pRow (stV f) (.string ⟨#[]⟩) m k)
  mark : LAt wr 4 s (pRow (bV f) (.bool false) m k)
  old : ∀ b, b < W1.heap.size → b ≠ r → b ≠ s → wr.heap[b]? = W1.heap[b]?
  bel : Below W.heap.size W wr
theorem RowAt.keep {W W1 : World} {f : Nat → Option Bs} {m r s k : Nat} {wr : World} (h : RowAt W W1 f m r s k wr) {T : TypeId} {b : Nat} {l : List Value} (hl : LAt W1 T b l) (hr : b ≠ r) (hs : b ≠ s) : LAt wr T b l := (h.old b hl.lt hr hs).trans hl
theorem RowAt.below {W W1 : World} {f : Nat → Option Bs} {m r s k : Nat} {wr w' : World} (h : RowAt W W1 f m r s k wr) (hz : W1.heap.size ≤ wr.heap.size) (hb : Below wr.heap.size wr w') : RowAt W W1 f m r s k w' :=
  ⟨h.row.below hb, h.mark.below hb, fun b h1 h2 h3 => (hb.block b (by omega)).trans (h.old b h1 h2 h3), h.bel.trans (hb.mono h.bel.size)⟩
theorem RowAt.put {W W1 : World} {f : Nat → Option Bs} {m r s k : Nat} {wr : World} (h : RowAt W W1 f m r s (k + 1) wr) (hk : k ≤ m) (hr : W.heap.size ≤ r) (hs : W.heap.size ≤ s) (x : ByteArray) (b : Bool) (hx : x = sOf (f k)) (hb : b = (f k).isSome) :
    RowAt W W1 f m r s k ((wr.setCell ⟨r, k, none⟩ (.string x)).setCell ⟨s, k, none⟩ (.bool b)) := by
  have hne : r ≠ s := h.row.ne h.mark (by decide)
  refine ⟨?_, ?_, fun c h1 h2 h3 => ?_, (h.bel.setCell (p := ⟨r, k, none⟩) hr _).setCell (p := ⟨s, k, none⟩) hs _⟩
  · have := (h.row.set k (.string x)).other (c := s) (k := k) (v := .bool b) hne
    rwa [pRow_set _ _ _ _ hk _ (by rw [hx])] at this
  · have := (h.mark.other (c := r) (k := k) (v := .string x) (Ne.symm hne)).set k (.bool b)
    rwa [pRow_set _ _ _ _ hk _ (by rw [hb])] at this
  · rw [heap_setCell_other _ _ _ _ h3, heap_setCell_other _ _ _ _ h2]; exact h.old c h1 h2 h3
theorem RowAt.put' {W W1 : World} {f : Nat → Option Bs} {m r s k : Nat} {wr : World} (h : RowAt W W1 f m r s (k + 1) wr) (hk : k ≤ m) (hr : W.heap.size ≤ r) (hs : W.heap.size ≤ s) (x : ByteArray) (b : Bool) (hx : x = sOf (f k)) (hb : b = (f k).isSome) :
    RowAt W W1 f m r s k ((wr.setCell ⟨s, k, none⟩ (.bool b)).setCell ⟨r, k, none⟩ (.string x)) := by
  have hne : r ≠ s := h.row.ne h.mark (by decide)
  refine ⟨?_, ?_, fun c h1 h2 h3 => ?_, (h.bel.setCell (p := ⟨s, k, none⟩) hs _).setCell (p := ⟨r, k, none⟩) hr _⟩
  · have := (h.row.other (c := s) (k := k) (v := .bool b) hne).set k (.string x)
    rwa [pRow_set _ _ _ _ hk _ (by rw [hx])] at this
  · have := (h.mark.set k (.bool b)).other (c := r) (k := k) (v := .string x) (Ne.symm hne)
    rwa [pRow_set _ _ _ _ hk _ (by rw [hb])] at this
  · rw [heap_setCell_other _ _ _ _ h2, heap_setCell_other _ _ _ _ h3]; exact h.old c h1 h2 h3
theorem RowAt.drew {W W1 : World} {f : Nat → Option Bs} {m r s k : Nat} {wr : World} (h : RowAt W W1 f m r s k wr) : RowAt W W1 f m r s k wr.drew :=
  ⟨h.row, h.mark, h.old, h.bel.drew⟩
theorem TabAt.drew {W : World} {p q : List Em} {rb sb : Nat} {R S : Nat → Nat} {k : Nat} {wr : World} (h : TabAt W p q rb sb R S k wr) : TabAt W p q rb sb R S k wr.drew :=
  ⟨h.rest, h.is, h.rowR, h.rowS, h.bel.drew⟩
def ups (R : Nat → Nat) (i v : Nat) : Nat → Nat := fun j => if j = i then v else R j
theorem ups_at (R : Nat → Nat) (i v : Nat) : ups R i v i = v := if_pos rfl
theorem ups_ne (R : Nat → Nat) (i v j : Nat) (h : j ≠ i) : ups R i v j = R j := if_neg h
/-- Row i begins: its two slices lie new, and the table knows them. -/
structure NewAt (W wo : World) (p q : List Em) (rb sb : Nat) (R S : Nat → Nat) (i r s : Nat) (W1 : World) : Prop where
  rest : LAt W1 54 rb (pRow (slV q.length (ups R i r)) (.slice none 0 0) p.length i)
  is : LAt W1 67 sb (pRow (slV q.length (ups S i s)) (.slice none 0 0) p.length i)
  rowR : ∀ k, i + 1 ≤ k → k ≤ p.length → LAt W1 9 (R k) (pRow (stV (tabF p q k)) (.string ⟨#[]⟩) q.length 0)
  rowS : ∀ k, i + 1 ≤ k → k ≤ p.length → LAt W1 4 (S k) (pRow (bV (tabF p q k)) (.bool false) q.length 0)
  newR : LAt W1 9 r (List.replicate (q.length + 1) (.string ⟨#[]⟩))
  newS : LAt W1 4 s (List.replicate (q.length + 1) (.bool false))
  bel : Below W.heap.size W W1
  fr : wo.heap.size ≤ r
  fs : wo.heap.size ≤ s
theorem NewAt.start {W wo : World} {p q : List Em} {rb sb : Nat} {R S : Nat → Nat} {i r s : Nat} {W1 : World} (h : NewAt W wo p q rb sb R S i r s W1) : RowAt W W1 (tabF p q i) q.length r s (q.length + 1) W1 :=
  ⟨by rw [← pRow_none]; exact h.newR, by rw [← pRow_none]; exact h.newS, fun _ _ _ _ => rfl, h.bel⟩
theorem NewAt.done {W wo : World} {p q : List Em} {rb sb : Nat} {R S : Nat → Nat} {i r s : Nat} {W1 wr : World} (h : NewAt W wo p q rb sb R S i r s W1) (hR : ∀ k, i + 1 ≤ k → k ≤ p.length → R k < wo.heap.size) (hS : ∀ k, i + 1 ≤ k → k ≤ p.length → S k < wo.heap.size) (hr : RowAt W W1 (tabF p q i) q.length r s 0 wr) : TabAt W p q rb sb (ups R i r) (ups S i s) i wr := by
  have d1 : 54 ≠ 9 := by decide
  have d2 : 54 ≠ 4 := by decide
  have d3 : 67 ≠ 9 := by decide
  have d4 : 67 ≠ 4 := by decide
  have d5 : 9 ≠ 4 := by decide
  have fr := h.fr; have fs := h.fs
  refine ⟨hr.keep h.rest (h.rest.ne h.newR d1) (h.rest.ne h.newS d2), hr.keep h.is (h.is.ne h.newR d3) (h.is.ne h.newS d4), fun k h1 h2 => ?_, fun k h1 h2 => ?_, hr.bel⟩
  · by_cases e : k = i
    · subst e; rw [ups_at]; exact hr.row
    · rw [ups_ne _ _ _ _ e]
      have := hR k (by omega) h2
      exact hr.keep (h.rowR k (by omega) h2) (by omega) ((h.rowR k (by omega) h2).ne h.newS d5)
  · by_cases e : k = i
    · subst e; rw [ups_at]; exact hr.mark
    · rw [ups_ne _ _ _ _ e]
      have := hS k (by omega) h2
      exact hr.keep (h.rowS k (by omega) h2) ((h.rowS k (by omega) h2).ne h.newR (Ne.symm d5)) (by omega)
/-- The four stores of a new row, in the two orders of making. -/
theorem new_of {W wo : World} {p q : List Em} {rb sb : Nat} {R S : Nat → Nat} {i r s : Nat} {w2 : World} (h : TabAt W p q rb sb R S (i + 1) wo) (hi : i ≤ p.length) (hb : Below wo.heap.size wo w2) (hr : LAt w2 9 r (List.replicate (q.length + 1) (.string ⟨#[]⟩))) (hs : LAt w2 4 s (List.replicate (q.length + 1) (.bool false))) (fr : wo.heap.size ≤ r) (fs : wo.heap.size ≤ s) (hrb : W.heap.size ≤ rb) (hsb : W.heap.size ≤ sb) :
    NewAt W wo p q rb sb R S i r s ((w2.setCell ⟨rb, i, none⟩ (.slice (some ⟨r, 0, none⟩) (q.length + 1) (q.length + 1))).setCell ⟨sb, i, none⟩ (.slice (some ⟨s, 0, none⟩) (q.length + 1) (q.length + 1))) := by
  have d1 : 54 ≠ 9 := by decide
  have d2 : 54 ≠ 4 := by decide
  have d3 : 67 ≠ 9 := by decide
  have d4 : 67 ≠ 4 := by decide
  have d6 : 54 ≠ 67 := by decide
  have h1 := h.rest.below hb
  have h2 := h.is.below hb
  have hne := h1.ne h2 d6
  refine ⟨?_, ?_, fun k k1 k2 => ?_, fun k k1 k2 => ?_, ?_, ?_, ?_, fr, fs⟩
  · have := (h1.set i (.slice (some ⟨r, 0, none⟩) (q.length + 1) (q.length + 1))).other (c := sb) (k := i) (v := .slice (some ⟨s, 0, none⟩) (q.length + 1) (q.length + 1)) hne
    rw [pRow_congr (slV q.length R) (slV q.length (ups R i r)) _ _ _ (fun k k1 _ => by simp only [slV]; rw [ups_ne _ _ _ _ (by omega)]), pRow_set _ _ _ _ hi _ (by simp only [slV]; rw [ups_at])] at this
    exact this
  · have := (h2.other (c := rb) (k := i) (v := .slice (some ⟨r, 0, none⟩) (q.length + 1) (q.length + 1)) (Ne.symm hne)).set i (.slice (some ⟨s, 0, none⟩) (q.length + 1) (q.length + 1))
    rw [pRow_congr (slV q.length S) (slV q.length (ups S i s)) _ _ _ (fun k k1 _ => by simp only [slV]; rw [ups_ne _ _ _ _ (by omega)]), pRow_set _ _ _ _ hi _ (by simp only [slV]; rw [ups_at])] at this
    exact this
  · have g := (h.rowR k k1 k2).below hb
    exact (g.other (Ne.symm (h1.ne g d1))).other (Ne.symm (h2.ne g d3))
  · have g := (h.rowS k k1 k2).below hb
    exact (g.other (Ne.symm (h1.ne g d2))).other (Ne.symm (h2.ne g d4))
  · exact (hr.other (Ne.symm (h1.ne hr d1))).other (Ne.symm (h2.ne hr d3))
  · exact (hs.other (Ne.symm (h1.ne hs d2))).other (Ne.symm (h2.ne hs d4))
  · exact ((h.bel.trans (hb.mono h.bel.size)).setCell (p := ⟨rb, i, none⟩) hrb _).setCell (p := ⟨sb, i, none⟩) hsb _
theorem NewAt.drew {W wo : World} {p q : List Em} {rb sb : Nat} {R S : Nat → Nat} {i r s : Nat} {W1 : World} (h : NewAt W wo p q rb sb R S i r s W1) : NewAt W wo p q rb sb R S i r s W1.drew :=
  ⟨h.rest, h.is, h.rowR, h.rowS, h.newR, h.newS, h.bel.drew, h.fr, h.fs⟩
theorem swap_set (w : World) (a b i j : Nat) (u v : Value) (h : a ≠ b) : (w.setCell ⟨a, i, none⟩ u).setCell ⟨b, j, none⟩ v = (w.setCell ⟨b, j, none⟩ v).setCell ⟨a, i, none⟩ u := by
  unfold World.setCell
  simp only
  congr 1
  apply Array.ext_getElem?
  intro k
  simp only [Array.getElem?_modify]
  by_cases h1 : a = k
  · by_cases h2 : b = k
    · omega
    · simp [h1, h2]
  · by_cases h2 : b = k <;> simp [h1, h2]
end Go.Proofs.YtcknomaaikeebaaDoor
