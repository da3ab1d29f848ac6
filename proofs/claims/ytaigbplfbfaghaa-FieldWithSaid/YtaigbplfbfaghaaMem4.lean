/- append of a row of another slice type; stores into a row of the call's own. No program here. -/
import Derived.Test.YtaigbplfbfaghaaMem3
namespace Go.Proofs.Ytaigbplfbfaghaa
set_option linter.unusedSimpArgs false
set_option linter.unusedVariables false
open Go.RowKit

theorem append_types {P : Program} {t t' e e' : TypeId} {i : TypeInfo} (ht : P.underlying t = some (.slice e)) (ht' : P.underlying t' = some (.slice e')) (hi : P.info? e = some i) (ty : TypeId) (B : Option Addr) (n cp : Nat) (x : Value) (w : World) :
    (Builtin.append_ #[t, t'] ty #[.slice B n cp, x]).run P w = (Builtin.append_ #[t, t] ty #[.slice B n cp, x]).run P w := by
  simp [Builtin.append_, run_underlying ht, run_underlying ht', sizeOf, typeInfo, hi]

/-- 'append(v, ys...)' of strings, ys of another slice type. -/
theorem wpList_pourT {P : Program} {w : World} {ops : Array Oper} {rest : List Oper} {o : Oper} {a : Act} {Q : Exit → Act → World → Prop} {t t' e e' : TypeId} (E : Elem P t e 1 16) (ht' : P.underlying t' = some (.slice e')) (hgd : o.guard = none) (s x : Operand)
    (ho : o.op = .call { callee := .builtin .append, args := #[s, x], argTypes := #[t, t'] }) {base : Nat} {v : Value} {n : Nat} {xs : List Value} (hown : w.ownsRow base e 1 v n xs) (hs : a.eval s = v)
    {A : Option Addr} {l : List (List UInt8)} {c : Nat} (hx : a.eval x = .slice A l.length c) (hr : Row w A (strsL l)) (hn : n + l.length ≤ 1000000) (hbase : base ≤ w.heap.size)
    (h : ∀ v' w', w'.ownsRow base e 1 v' (n + l.length) (xs ++ strsL l) → w.grownBy w' v.ownBlock → (v'.ownBlock = v.ownBlock ∨ v'.ownBlock = some w.heap.size) → wpList P ops Q rest (a.put o.dst v') w') :
    wpList P ops Q (o :: rest) a w := by
  obtain ⟨v', w', hrun, h2, h3, h4⟩ := run_pour E w base o.type v n xs hown A l.length c (strsL l) hr (by simp) (strsL_one l) (hr.none_len (size := 1) (by simp) (by omega)) (by unfold maxLen; omega) (by omega) hbase
  obtain ⟨i, z, hi, _⟩ := E.info
  obtain ⟨B, cp, hv, _⟩ := own_row hown
  rw [hv, ← append_types E.under ht' hi, ← hv] at hrun
  refine wpList_plain hgd fun _ hK => ?_
  unfold Oper.wp execOp
  simp only [ho, resolve, invoke, builtin, Sem.run_bind, Sem.run_pure, Result.andThen_ok, List.map_toArray, List.map_cons, List.map_nil, hs, hx, hrun]
  exact hK _ _ (h v' w' h2 h3 h4)

/-- The first n cells of the row are there and free, in a block from N on. -/
def Writable (w : World) (A : Option Addr) (n N : Nat) : Prop := n = 0 ∨ ∃ g, A = some ⟨g, 0, none⟩ ∧ N ≤ g ∧ ∀ j, j < n → (∃ v, w.cell? ⟨g, j, none⟩ = some v) ∧ w.frozen? ⟨g, j, none⟩ = false
theorem writable_of {w : World} {base : Nat} {e : TypeId} {A : Option Addr} {n c : Nat} {xs : List Value} (h : w.ownsRow base e 1 (.slice A n c) n xs) : Writable w A n base := by
  have hx := h.1
  rcases own_form h with ⟨_, h0⟩ | ⟨g, cap, hv, hg, hlt, hcap, hc⟩
  · exact .inl h0
  · injection hv with h1 h2 h3
    subst h1 h3
    refine .inr ⟨g, rfl, hg, fun j hj => ⟨⟨xs[j]'(by omega), hc j _ (List.getElem?_eq_getElem (by omega))⟩, h.frozenAt j⟩⟩
theorem Writable.below {w w' : World} {A : Option Addr} {n N : Nat} (h : Writable w A n N) (hb : Below w.heap.size w w') : Writable w' A n N := by
  rcases h with h | ⟨g, hA, hg, hc⟩
  · exact .inl h
  · refine .inr ⟨g, hA, hg, fun j hj => ?_⟩
    obtain ⟨⟨v, hv⟩, hf⟩ := hc j hj
    have hlt := World.block_lt_of_cell? w _ hv
    exact ⟨⟨v, (hb.cell (p := ⟨g, j, none⟩) hlt).trans hv⟩, (hb.frozen (p := ⟨g, j, none⟩) hlt).trans hf⟩
theorem Writable.set {w : World} {A : Option Addr} {n N : Nat} (h : Writable w A n N) (p : Addr) (u : Value) : Writable (w.setCell p u) A n N := by
  rcases h with h | ⟨g, hA, hg, hc⟩
  · exact .inl h
  · refine .inr ⟨g, hA, hg, fun j hj => ?_⟩
    obtain ⟨⟨v, hv⟩, hf⟩ := hc j hj
    exact ⟨cell?_setCell_some hv, by rw [World.frozen?_setCell]; exact hf⟩
end Go.Proofs.Ytaigbplfbfaghaa
