/- Lemmas and walks, part 34. -/
import Derived.Test.YtghjgbkhhoaebaaGreatDoorPo9
import Derived.OwnWalkIn
import Derived.Maps.OwnIn
import Derived.RangeFuncBox
import Derived.RangeFuncOwn
import Derived.RangeFuncFrom
import Derived.RangeFuncWrites
namespace Go.Proofs.YtghjgbkhhoaebaaGreatDoor
set_option linter.unusedSimpArgs false
set_option linter.unusedVariables false
open Go.RowKit

/-- 'append(v, x)' inside a fence: one element, which lies in a new block. -/
theorem wpListIn_push {F : Fence} {nF : Nat} {P : Program} {w : World} {ops : Array Oper} {rest : List Oper} {o : Oper} {a : Act} {Q : Exit → Act → World → Prop} {t e : TypeId} {size bytes : Nat} (E : Elem P t e size bytes) (hgd : o.guard = none) (s x : Operand)
    (ho : o.op = .call { callee := .builtin .append, args := #[s, x], argTypes := #[t, t] }) {base : Nat} {v : Value} {n : Nat} {xs : List Value} (hown : w.ownsRow base e size v n xs) (cs : Array Value) (hs : a.eval s = v)
    (hx : a.eval x = .slice (some ⟨w.heap.size, 0, none⟩) 1 1) (hl : cs.size = size) (h1 : ∀ u ∈ cs.toList, u.oneCell' = true) (hn : (n + 1) * bytes ≤ 140737488355328) (hn2 : n + 1 ≤ maxLen) (hbase : base ≤ w.heap.size)
    (h : ∀ g cap w', w'.ownsRow base e size (.slice (some ⟨g, 0, none⟩) (n + 1) cap) (n + 1) (xs ++ cs.toList) → w.grownBy w' v.ownBlock → (v.ownBlock = some g ∨ w.heap.size < g) → wpListIn F nF P ops Q rest (a.put o.dst (.slice (some ⟨g, 0, none⟩) (n + 1) cap)) w') :
    wpListIn F nF P ops Q (o :: rest) a (w.alloc (.cells cs e)) := by
  obtain ⟨i, z, hi, hz0, hz1, hz2, hzs⟩ := E.info
  refine wpListIn_append_own_at _ hgd s x t ho base e i z size bytes E.under hi hz0 hz1 hz2 hzs E.pos v n xs hs (hown.alloc _) ⟨w.heap.size, 0, none⟩ 1 1 cs.toList hx (by simp [hl]) (World.news_of_block (t := e) (fr := (0, 0)) (heap_alloc_new w _)) h1 hn2 hn (by simp; omega) ?_
  intro v' w' ho' hg _ hat
  obtain ⟨g, cap, rfl, _, _⟩ := own_pos ho' (by omega)
  refine h g cap w' ho' ⟨hg.os, hg.tape, hg.output, Nat.le_trans (by simp) hg.size, fun k hk hne => (hg.block k (by simp; omega) hne).trans (Lib.alloc_old w _ k hk)⟩ ?_
  rcases hat with hat | hat
  · exact .inl hat.symm
  · refine .inr ?_
    simp [Value.ownBlock] at hat
    omega

theorem own_other {w : World} {base : Nat} {e : TypeId} {size n : Nat} {v : Value} {xs : List Value} (h : w.ownsRow base e size v n xs) {B i : Nat} (hne : v.ownBlock ≠ some B) (u : Value) : (w.setCell ⟨B, i, none⟩ u).ownsRow base e size v n xs := by
  refine ⟨h.1, ?_⟩
  rcases h.2 with h2 | ⟨g, cap, cur, rfl, hg', hh, r⟩
  · exact .inl h2
  · refine .inr ⟨g, cap, cur, rfl, hg', ?_, r⟩
    rw [Below.heap_setCell _ _ _ _ (fun e => hne (by simp [Value.ownBlock, e]))]
    exact hh
theorem own_keep {W W' : World} {base : Nat} {e : TypeId} {size n : Nat} {v : Value} {xs : List Value} (h : W.ownsRow base e size v n xs) {row : Option Nat} (hg : W.grownBy W' row) (hr : ∀ r, row = some r → ∃ o : Obj, W.heap[r]? = some o ∧ o.isCells = false) : W'.ownsRow base e size v n xs := by
  refine ⟨h.1, ?_⟩
  rcases h.2 with h2 | ⟨g, cap, cur, hv, hg', hh, r⟩
  · exact .inl h2
  · refine .inr ⟨g, cap, cur, hv, hg', ?_, r⟩
    exact (hg.block g (heap_lt hh) (fun e => by obtain ⟨o, ho, hc⟩ := hr g e.symm; rw [hh] at ho; cases ho; cases hc)).trans hh
/-- What an append into the slice of a box and the store of the new slice leave. -/
theorem push_done {n0 base LB g0 cap0 n : Nat} {e t : TypeId} {xs : List Value} {W w5 w7 : World} (v' : Value) (h5 : Below W.heap.size W w5) (hown : W.ownsRow base e 1 (.slice (some ⟨g0, 0, none⟩) n cap0) n xs) (hbox : Boxed W LB t (.slice (some ⟨g0, 0, none⟩) n cap0))
    (hg : w5.grownBy w7 (some g0)) (hne : g0 ≠ LB) (hn0 : n0 ≤ base) (hn1 : n0 ≤ LB) (B : Nat) :
    KeepsFrom B W (w7.setCell ⟨LB, 0, none⟩ v') ∧ Below n0 W (w7.setCell ⟨LB, 0, none⟩ v') ∧ Boxed (w7.setCell ⟨LB, 0, none⟩ v') LB t v' := by
  have hgb := (hown.lt g0 rfl)
  have hlb : LB < W.heap.size := hbox.lt
  have hsz := h5.size
  have hsz2 := hg.size
  refine ⟨⟨by rw [World.size_setCell]; omega, fun k o _ hk ho => ?_⟩, ?_, ?_⟩
  · have hkl := heap_lt hk
    have hkg : k ≠ g0 := fun e => by
      subst e
      rcases hown.2 with h2 | ⟨g, cap, cur, hv, hg', hh, r⟩
      · obtain ⟨h2, _⟩ := h2; cases h2
      · injection hv with hv; injection hv with hv; injection hv with hv
        subst hv
        rw [hk] at hh; cases hh; cases ho
    have hkB : k ≠ LB := fun e => by
      subst e
      have : W.heap[k]? = some (.cells #[_] t (0, 0)) := hbox
      rw [hk] at this; cases this; cases ho
    rw [Below.heap_setCell _ _ _ _ hkB, hg.block k (by omega) (fun e => hkg (by injection e)), h5.block k hkl]
    exact hk
  · exact ((h5.mono (by omega)).grown hg (by omega) (fun k hk => by cases hk; exact Nat.le_trans hn0 hgb.1)).setCell (p := ⟨LB, 0, none⟩) hn1 _
  · have : w7.heap[LB]? = some (.cells #[.slice (some ⟨g0, 0, none⟩) n cap0] t (0, 0)) := (hg.block LB (by omega) (fun e => hne (by injection e with e; exact e.symm))).trans ((h5.block LB hlb).trans hbox)
    exact (show Boxed w7 LB t _ from this).set v'
end Go.Proofs.YtghjgbkhhoaebaaGreatDoor
