/- What the laws on patterns lean on. -/
import Derived.Test.YtcknomaaikeebaaDoorWmK
import Derived.Test.YtcknomaaikeebaaDoorLaw
import Derived.Test.YtcknomaaikeebaaDoorLaidW
import Derived.Test.YtcknomaaikeebaaDoorOpen0
import Derived.Test.YtcknomaaikeebaaDoorCards
import Derived.Test.YtcknomaaikeebaaDoorTie
namespace Go.Proofs.YtcknomaaikeebaaDoor
set_option linter.unusedSimpArgs false
set_option linter.unusedVariables false
open Go.ChangeShapes Go.WideShapes Go.ChangeAt Go.RowKit
open Go.ChangeMaps (open_string shut_string)

theorem law_cut' (s : ByteArray) (n : Nat) (N : Int) (hN : N = n) (w : World) (hs : s.size ≤ maxLen) (hn : n ≤ 1000000) :
    Calls Tryd.prog 4 #[.string s, .int .i64 N] w fun e w' => e = .returned (.string (cutB s n)) ∧ w = w' := by
  subst hN; exact law_cut s n w hs hn
theorem PatV.ptr {w : World} {s : ByteArray} {x : List Em × Nat × Int} {v : Value} (h : PatV w s x v) : ∃ p, v = .pointer p := by
  rcases h with ⟨_, b, rfl, _⟩ | ⟨_, rfl⟩ <;> exact ⟨_, rfl⟩
theorem row_one (w : World) (y : ByteArray) (t : TypeId) : Row (w.alloc (.cells #[.string y] t)) (some ⟨w.heap.size, 0, none⟩) (strsL [toL y]) := by
  have := row_lit w [toL y] t
  simpa [ofL_toL] using this
theorem alloc_bel (w : World) (o : Obj) : Below w.heap.size w (w.alloc o) := (Below.refl _ _).alloc (Nat.le_refl _) _
theorem PatV.yes {w : World} {s : ByteArray} {ps : List Em} {n : Nat} {v : Value} (h : PatV w s (ps, n, 0) v) : ∃ b, v = .pointer (some ⟨b, 0, none⟩) ∧ PatT w b s ps := by
  rcases h with ⟨_, b, rfl, hp⟩ | ⟨h0, _⟩
  · exact ⟨b, rfl, hp⟩
  · exact absurd rfl h0
theorem PatV.no {w : World} {s : ByteArray} {ps : List Em} {n : Nat} {k : Int} {v : Value} (h : PatV w s (ps, n, k) v) (hk : k ≠ 0) : v = .pointer none := by
  rcases h with ⟨h0, _⟩ | ⟨_, rfl⟩
  · exact absurd h0 hk
  · rfl
theorem ListV.yes {w : World} {s : ByteArray} {es : List Ent} {n : Nat} {v : Value} (h : ListV w s (es, n, 0) v) : ∃ b, v = .pointer (some ⟨b, 0, none⟩) ∧ ListAt w b s es := by
  rcases h with ⟨_, b, rfl, hp⟩ | ⟨h0, _⟩
  · exact ⟨b, rfl, hp⟩
  · exact absurd rfl h0
theorem ListV.no {w : World} {s : ByteArray} {es : List Ent} {n : Nat} {k : Int} {v : Value} (h : ListV w s (es, n, k) v) (hk : k ≠ 0) : v = .pointer none := by
  rcases h with ⟨h0, _⟩ | ⟨_, rfl⟩
  · exact absurd h0 hk
  · rfl
end Go.Proofs.YtcknomaaikeebaaDoor
