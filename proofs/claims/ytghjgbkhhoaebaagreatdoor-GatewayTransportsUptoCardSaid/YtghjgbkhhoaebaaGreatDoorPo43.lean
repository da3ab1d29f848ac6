/- Lemmas and walks, part 43. -/
import Derived.Test.YtghjgbkhhoaebaaGreatDoorPo41
import Derived.Test.YtghjgbkhhoaebaaGreatDoorPo42
import Derived.Deep.Slices
import Derived.Deep.Fields
import Derived.ChangeSame
namespace Go.Proofs.YtghjgbkhhoaebaaGreatDoor
set_option linter.unusedSimpArgs false
set_option linter.unusedVariables false
open Go.ChangeShapes Go.WideShapes Go.ChangeAt Go.RowKit Go.Deep

theorem list_of {α : Type} {Q : Nat → α → Prop} : ∀ n : Nat, (∀ i, i < n → ∃ x, Q i x) → ∃ l : List α, l.length = n ∧ ∀ i (h : i < l.length), Q i l[i] := by
  intro n
  induction n with
  | zero => intro _; exact ⟨[], rfl, fun i h => by simp at h⟩
  | succ n ih =>
    intro h
    obtain ⟨l, hl, hq⟩ := ih (fun i hi => h i (by omega))
    obtain ⟨x, hx⟩ := h n (by omega)
    refine ⟨l ++ [x], by simp [hl], fun i hi => ?_⟩
    by_cases e : i < l.length
    · rw [List.getElem_append_left e]; exact hq i e
    · have e2 : i = n := by simp at hi; omega
      subst e2
      simpa [List.getElem_append_right, hl] using hx

section
variable {H : Type} {enc : TypeId × Value → H} {P : Program} {w : World} {r : Reach}
theorem open_flds {b0 : Nat} {t e sT : TypeId} {f0 f1 : Field} {v : Value} {d : DataW H} {p : List MemPlace} (ht : P.underlying t = some (.slice e)) (he : P.underlying e = some (.struct #[f0, f1])) (hone : oneCellFields P #[f0, f1] = true) (hC : P.cellsOf e = 2)
    (h0 : f0.type = sT) (h1 : f1.type = sT) (hs : P.underlying sT = some .string) (hv : Value.okWide P w r b0 t v) (h : DataW.Trod enc P w 0 (fun _ => true) true t v d p) :
    ∃ A l c, v = .slice A l.length c ∧ Row w A (fldsV l) ∧ Sized l := by
  obtain ⟨a0, len, cap, rfl⟩ := okWide_slice ht hv
  obtain ⟨fuel, hf⟩ := h
  rcases open_slice ht hf with ⟨hcs, hx⟩ | ⟨a, len', cap', m, n, D, Pl, hcs, hb, hl, hm, hmm, hx, hi⟩
  · simp [Value.cells] at hcs
    obtain ⟨rfl, rfl, rfl⟩ := hcs
    exact ⟨none, [], 0, rfl, Row.nil _ _, by simp [maxLen], by simp⟩
  · simp [Value.cells] at hcs
    obtain ⟨rfl, rfl, rfl⟩ := hcs
    have hmc : m = cap := by simpa using hmm
    subst hmc
    have hel : ∀ i, i < len → ∃ f : Fd, (w.cell? (a.add (i * 2)) = some (.string (ofL f.1)) ∧ w.cell? (a.add (i * 2 + 1)) = some (.string (ofL f.2))) ∧ f.1.length ≤ maxLen ∧ f.2.length ≤ maxLen := by
      intro i hil
      obtain ⟨cs', hc, ht'⟩ := hi i (by omega)
      rw [hC] at hc
      obtain ⟨ys, n', hn', hy, hlen, hyl, hfl⟩ := DataW.trod_struct he ht'
      obtain ⟨_, hcl, hat⟩ := World.cells?_some hc
      obtain ⟨o0, k0⟩ := hone_of hone 0 f0 rfl
      obtain ⟨o1, k1⟩ := hone_of hone 1 f1 rfl
      match cs', hcl with
      | [c0, c1], _ =>
        have g0 := hfl 0 f0 rfl
        have g1 := hfl 1 f1 rfl
        rw [o0, k0] at g0
        rw [o1, k1] at g1
        match ys, hyl with
        | [y0, y1], _ =>
          simp at g0 g1
          rw [h0] at g0
          rw [h1] at g1
          obtain ⟨s0, e0, _, w0⟩ := DataW.trod_string hs g0
          obtain ⟨s1, e1, _, w1⟩ := DataW.trod_string hs g1
          simp at e0 e1
          subst e0 e1
          have q0 := hat 0 (by omega)
          have q1 := hat 1 (by omega)
          rw [Go.Deep.add_add] at q0 q1
          refine ⟨(toL s0, toL s1), ⟨?_, ?_⟩, by rw [toL_length]; exact w0, by rw [toL_length]; exact w1⟩
          · rw [ofL_toL]; simpa using q0
          · rw [ofL_toL]; simpa using q1
    obtain ⟨l, hll, hq⟩ := list_of len hel
    subst hll
    refine ⟨some a, l, m, rfl, ?_, ?_, fun f hf => ?_⟩
    · by_cases hz : l = []
      · subst hz; exact Row.nil _ _
      · have hpos : 0 < l.length := List.length_pos_iff.2 hz
        have hc0 := (hq 0 hpos).1.1
        have hsp := spot_none hc0
        have hlt := World.block_lt_of_cell? w _ hc0
        obtain ⟨bb, off, sp⟩ := a
        have hsp' : sp = none := by simpa [Addr.add] using hsp
        subst hsp'
        have hadd : ∀ j, (⟨bb, off, none⟩ : Addr).add j = ⟨bb, off + j, none⟩ := fun j => by
          unfold Addr.add
          split
          · rename_i h; subst h; rfl
          · rfl
        rw [hadd] at hlt
        refine Row.mk _ _ _ _ hlt fun j u hu => ?_
        have hj : j < (fldsV l).length := by
          rcases Nat.lt_or_ge j (fldsV l).length with h' | h'
          · exact h'
          · rw [List.getElem?_eq_none h'] at hu; cases hu
        rw [fldsV_length] at hj
        have hk : j / 2 < l.length := by omega
        obtain ⟨e0, e1⟩ := fldsV_at l (j / 2) hk
        obtain ⟨⟨c0, c1⟩, _⟩ := hq (j / 2) hk
        rw [hadd] at c0 c1
        rcases Nat.mod_two_eq_zero_or_one j with h2 | h2
        · rw [show j / 2 * 2 = j from by omega] at e0 c0
          rw [hu] at e0
          simp at e0; subst e0; exact c0
        · rw [show j / 2 * 2 + 1 = j from by omega] at e1 c1
          rw [hu] at e1
          simp at e1; subst e1; exact c1
    · omega
    · obtain ⟨j, hj, rfl⟩ := List.getElem_of_mem hf
      exact (hq j hj).2
end

end Go.Proofs.YtghjgbkhhoaebaaGreatDoor


