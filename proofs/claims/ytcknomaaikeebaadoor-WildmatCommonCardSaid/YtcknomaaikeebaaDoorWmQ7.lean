/- The walk over the reference's Match and Empty. -/
import Derived.Test.YtcknomaaikeebaaDoorWmQ5
import Derived.Test.YtcknomaaikeebaaDoorWmR
import Derived.Test.YtcknomaaikeebaaDoorWm5
namespace Go.Proofs.YtcknomaaikeebaaDoor
set_option linter.unusedSimpArgs false
set_option linter.unusedVariables false
open Go.RowKit

/-- The elements behind a boxed pattern. -/
structure EsAt (w : World) (pb : Nat) (A : Option Addr) (c : Nat) (es : List Em) : Prop where
  cell : w.cell? ⟨pb, 1, none⟩ = some (.slice A es.length c)
  row : Row w A (rowsE es)
theorem EsAt.below {w w' : World} {pb : Nat} {A : Option Addr} {c : Nat} {es : List Em} (h : EsAt w pb A c es) (hb : Below w.heap.size w w') : EsAt w' pb A c es :=
  ⟨(hb.cell (p := ⟨pb, 1, none⟩) (World.block_lt_of_cell? w _ h.cell)).trans h.cell, h.row.below hb⟩
theorem EsAt.at {w : World} {pb : Nat} {A : Option Addr} {c : Nat} {es : List Em} (h : EsAt w pb A c es) {k : Nat} (hk : k < es.length) : ∃ bb off, A = some ⟨bb, off, none⟩ ∧ bb < w.heap.size ∧ w.cell? ⟨bb, off + k * 129, none⟩ = some (.bool es[k].isStar) ∧ ∀ j, j < 128 → w.cell? ⟨bb, off + k * 129 + 1 + j, none⟩ = some (.bool (emFn es[k] j)) := by
  obtain ⟨bb, off, e, hlt, hc⟩ := h.row.at (k := k * 129) (by rw [rowsE_len]; omega)
  refine ⟨bb, off, e, hlt, hc _ _ (rowsE_star es k hk), fun j hj => ?_⟩
  have := hc _ _ (rowsE_set es k j hk hj)
  rw [show off + k * 129 + 1 + j = off + (k * 129 + 1 + j) by omega]
  exact this
theorem emFn_one {e : Em} (hs : e.isStar = false) (c : UInt8) : emFn e c.toNat = e.chars.contains c := by
  unfold emFn; rw [hs]; simp [setF]

/-- What the row of a set holds so far. -/
def anyT (e : Em) (q : Nat) : Bool := e.isStar || (List.range q).any (emFn e)
theorem anyT_zero (e : Em) : e.isStar = anyT e 0 := by simp [anyT]
theorem anyT_succ (e : Em) (q : Nat) : anyT e (q + 1) = (anyT e q || emFn e q) := by
  unfold anyT; rw [List.range_succ, List.any_append]; simp [Bool.or_assoc]
theorem anyT_end {e : Em} (h : e.Ok) : anyT e 128 = !e.chars.isEmpty := by
  unfold anyT
  cases hs : e.isStar with
  | true =>
    have : e.chars ≠ [] := fun h0 => by have := (star_chars hs 97).2 (by decide); rw [h0] at this; simp at this
    simp [this]
  | false =>
    rw [Bool.false_or]
    cases hc : e.chars with
    | nil =>
      have : emFn e = fun _ => false := by funext j; unfold emFn; rw [hs, hc]; rfl
      rw [this]; decide +kernel
    | cons c r =>
      simp only [List.isEmpty_cons, Bool.not_false, List.any_eq_true]
      refine ⟨c.toNat, ?_, ?_⟩
      · have := char_lt c (h.char (by rw [hc]; simp))
        simpa using this
      · rw [emFn_one hs, hc]; simp
def NoneE (es : List Em) (k : Nat) : Prop := emptyF (es.take k) = false
theorem noneE_zero (es : List Em) : NoneE es 0 := rfl
theorem noneE_succ {es : List Em} {k : Nat} (hk : k < es.length) (h : NoneE es k) (he : es[k].chars.isEmpty = false) : NoneE es (k + 1) := by
  unfold NoneE emptyF at *
  rw [emAt_take es k hk, List.any_append, h]; simp [he] at *
theorem noneE_end {es : List Em} (h : NoneE es es.length) : emptyF es = false := by unfold NoneE at h; rwa [List.take_length] at h
theorem someE {es : List Em} {k : Nat} (hk : k < es.length) (he : es[k].chars.isEmpty = true) : emptyF es = true := by
  unfold emptyF; rw [List.any_eq_true]; exact ⟨es[k], List.getElem_mem hk, he⟩
theorem box_es {w : World} {txt : ByteArray} {A : Option Addr} {c : Nat} {es : List Em} (h : Row w A (rowsE es)) : EsAt (w.alloc (.cells #[.string txt, .slice A es.length c] 30)) w.heap.size A c es :=
  ⟨by rw [Lib.cell_of_heap (heap_alloc_new w _)]; rfl, h.below ((Below.refl _ _).alloc (Nat.le_refl _) _)⟩

end Go.Proofs.YtcknomaaikeebaaDoor
