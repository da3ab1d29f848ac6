/- The walk over the reference's Match. -/
import Derived.Test.YtcknomaaikeebaaDoorWmQ7
namespace Go.Proofs.YtcknomaaikeebaaDoor
set_option linter.unusedSimpArgs false
set_option linter.unusedVariables false
open Go.RowKit

def CharsTo (L : Bs) (k : Nat) : Prop := Chars (L.take k)
theorem charsTo_zero (L : Bs) : CharsTo L 0 := by simp [CharsTo, Chars]
theorem charsTo_succ {s : ByteArray} {k : Nat} (hk : k < s.size) (h : CharsTo (toL s) k) (hc : isChar (s[k]'hk) = true) : CharsTo (toL s) (k + 1) := by
  unfold CharsTo at *
  have hkl : k < (toL s).length := by rw [toL_length]; exact hk
  rw [List.take_succ_eq_append_getElem hkl, toL_getElem s k hk]
  intro c hm
  rcases List.mem_append.1 hm with hm | hm
  · exact h c hm
  · simp at hm; subst hm; exact hc
theorem charsTo_end {s : ByteArray} (h : CharsTo (toL s) s.size) : Chars (toL s) := by
  unfold CharsTo at h; rwa [List.take_of_length_le (by rw [toL_length]; omega)] at h
theorem noChar {es : List Em} (hok : ∀ e ∈ es, e.Ok) {s : ByteArray} {k : Nat} (hk : k < s.size) (hc : isChar (s[k]'hk) = false) : matchF es (toL s) = false := by
  rw [Bool.eq_false_iff]
  intro h
  have := matchF_chars es hok _ h (s[k]'hk) (by rw [← toL_getElem s k hk]; exact List.getElem_mem _)
  rw [hc] at this; cases this
/-- Row k of the table in memory. -/
structure DpAt (W : World) (es : List Em) (L : Bs) (k m : Nat) (wr : World) : Prop where
  bools : BoolsAt wr m (dpF es L k)
  bel : Below W.heap.size W wr
/-- Row k + 1 as far as it is written. -/
structure NxAt (m4 : Nat) (wo : World) (es : List Em) (L : Bs) (k i : Nat) (wx : World) : Prop where
  bools : BoolsAt wx m4 (dpG es L k i)
  bel : Below m4 wo wx
theorem NxAt.put {m4 : Nat} {wo wx : World} {es : List Em} {L : Bs} {k i : Nat} (h : NxAt m4 wo es L k i wx) (hi : i ≤ L.length) (b : Bool) (hb : matchF (es.take k) (L.take i) = b) : NxAt m4 wo es L k (i + 1) (wx.setCell ⟨m4, i, none⟩ (.bool b)) :=
  ⟨by have := h.bools.set i b; rwa [dpG_set es L k i b hi hb] at this, h.bel.setCell (p := ⟨m4, i, none⟩) (Nat.le_refl _) _⟩
theorem NxAt.skip {m4 : Nat} {wo wx : World} {es : List Em} {L : Bs} {k i : Nat} (h : NxAt m4 wo es L k i wx) (hi : i ≤ L.length) (hb : matchF (es.take k) (L.take i) = false) : NxAt m4 wo es L k (i + 1) wx :=
  ⟨by have := h.bools; rwa [dpG_skip es L k i hi hb] at this, h.bel⟩
theorem NxAt.drew {m4 : Nat} {wo wx : World} {es : List Em} {L : Bs} {k i : Nat} (h : NxAt m4 wo es L k i wx) : NxAt m4 wo es L k i wx.drew :=
  ⟨h.bools, h.bel.drew⟩

end Go.Proofs.YtcknomaaikeebaaDoor
