/- Opening an argument that is an article: a struct of a slice of fields and a string. -/
import Derived.Test.YtcohgjdijhogbaaOpen
import Derived.Lib.SmallJoins
namespace Go.Proofs.Ytcohgjdijhogbaa
set_option linter.unusedSimpArgs false
set_option linter.unusedVariables false
open Go.ChangeShapes Go.WideShapes Go.ChangeAt Go.RowKit Go.Deep Go.Joins

section
variable {H : Type} {enc : TypeId × Value → H} {P : Program} {w : World} {r : Reach}
/-- The datum of a field. -/
def fdD (H : Type) (f : Fd) : DataW H := .agg [.lit (.string f.1), .lit (.string f.2)]
theorem open_fldsD {t e sT : TypeId} {f0 f1 : Field} {v : Value} {y : DataW H × List MemPlace} {n : Nat} (ht : P.underlying t = some (.slice e)) (he : P.underlying e = some (.struct #[f0, f1])) (hone : oneCellFields P #[f0, f1] = true) (hC : P.cellsOf e = 2)
    (h0 : f0.type = sT) (h1 : f1.type = sT) (hs : P.underlying sT = some .string) (hf : DataW.trod enc P w 0 (fun _ => true) true n t [v] = some y) :
    ∃ A l c, v = .slice A l.length c ∧ Row w A (fldsV l) ∧ Sized l ∧ (y.1 = .nil ∧ l = [] ∨ ∃ sp, y.1 = .slice (l.map (fdD H)) sp) := by
  rcases open_slice ht hf with ⟨hcs, hx⟩ | ⟨a, len', cap', m, n, D, Pl, hcs, hb, hl, hm, hmm, hx, hi⟩
  · simp at hcs
    subst hcs
    exact ⟨none, [], 0, rfl, Row.nil _ _, ⟨by simp [maxLen], by simp⟩, .inl ⟨by rw [hx], rfl⟩⟩
  · simp at hcs
    subst hcs
    have hmc : m = cap' := by simpa using hmm
    subst hmc
    have hel : ∀ i, i < len' → ∃ f : Fd, ((w.cell? (a.add (i * 2)) = some (.string (ofL f.1)) ∧ w.cell? (a.add (i * 2 + 1)) = some (.string (ofL f.2))) ∧ f.1.length ≤ maxLen ∧ f.2.length ≤ maxLen) ∧ D i = fdD H f := by
      intro i hil
      obtain ⟨cs', hc, ht'⟩ := hi i (by omega)
      rw [hC] at hc
      obtain ⟨ys, n', hn', hy, hlen, hyl, hfl⟩ := DataW.trod_struct he ht'
      obtain ⟨_, hcl, hat⟩ := World.cells?_some hc
      obtain ⟨o0, k0⟩ := hone_of hone 0 f0 rfl
      obtain ⟨o1, k1⟩ := hone_of hone 1 f1 rfl
      match cs', hcl with
      | [c0, c1], _ =>
        have g0 := hfl 0 f0 rfl
        have g1 := hfl 1 f1 rfl
        rw [o0, k0] at g0
        rw [o1, k1] at g1
        match ys, hyl with
        | [y0, y1], _ =>
          simp at g0 g1
          rw [h0] at g0
          rw [h1] at g1
          obtain ⟨s0, e0, d0, w0⟩ := DataW.trod_string hs g0
          obtain ⟨s1, e1, d1, w1⟩ := DataW.trod_string hs g1
          simp at e0 e1
          subst e0 e1
          have q0 := hat 0 (by omega)
          have q1 := hat 1 (by omega)
          rw [Go.Deep.add_add] at q0 q1
          refine ⟨(toL s0, toL s1), ⟨⟨?_, ?_⟩, by rw [toL_length]; exact w0, by rw [toL_length]; exact w1⟩, ?_⟩
          · rw [ofL_toL]; simpa using q0
          · rw [ofL_toL]; simpa using q1
          · have hD := congrArg Prod.fst hy
            simp only at hD
            rw [hD, d0, d1]
            rfl
    obtain ⟨l, hll, hq⟩ := list_of len' hel
    subst hll
    refine ⟨some a, l, m, rfl, ?_, ⟨?_, fun f hf => ?_⟩, .inr ⟨(List.range (m - l.length)).map fun j => D (l.length + j), ?_⟩⟩
    · by_cases hz : l = []
      · subst hz; exact Row.nil _ _
      · have hpos : 0 < l.length := List.length_pos_iff.2 hz
        have hc0 := (hq 0 hpos).1.1.1
        have hsp := spot_none hc0
        have hlt := World.block_lt_of_cell? w _ hc0
        obtain ⟨bb, off, sp⟩ := a
        have hsp' : sp = none := by simpa [Addr.add] using hsp
        subst hsp'
        have hadd : ∀ j, (⟨bb, off, none⟩ : Addr).add j = ⟨bb, off + j, none⟩ := fun j => by
          unfold Addr.add
          split
          · rename_i h; subst h; rfl
          · rfl
        rw [hadd] at hlt
        refine Row.mk _ _ _ _ hlt fun j u hu => ?_
        have hj : j < (fldsV l).length := by
          rcases Nat.lt_or_ge j (fldsV l).length with h' | h'
          · exact h'
          · rw [List.getElem?_eq_none h'] at hu; cases hu
        rw [fldsV_length] at hj
        have hk : j / 2 < l.length := by omega
        obtain ⟨e0, e1⟩ := fldsV_at l (j / 2) hk
        obtain ⟨⟨⟨c0, c1⟩, _⟩, _⟩ := hq (j / 2) hk
        rw [hadd] at c0 c1
        rcases Nat.mod_two_eq_zero_or_one j with h2 | h2
        · rw [show j / 2 * 2 = j from by omega] at e0 c0
          rw [hu] at e0
          simp at e0; subst e0; exact c0
        · rw [show j / 2 * 2 + 1 = j from by omega] at e1 c1
          rw [hu] at e1
          simp at e1; subst e1; exact c1
    · omega
    · obtain ⟨j, hj, rfl⟩ := List.getElem_of_mem hf
      exact (hq j hj).1.2
    · rw [hx]
      show DataW.slice _ _ = DataW.slice _ _
      congr 1
      refine List.ext_getElem (by simp) fun j hj1 hj2 => ?_
      simp at hj1
      simp [(hq j hj1).2]
/-- An article that came in. -/
theorem open_art {b0 : Nat} {ta t e sT : TypeId} {g0 g1 f0 f1 : Field} {v : Value} {d : DataW H} {p : List MemPlace} (hta : P.underlying ta = some (.struct #[g0, g1])) (honea : oneCellFields P #[g0, g1] = true) (hCa : P.cellsOf ta = 2) (hg0 : g0.type = t) (hg1 : g1.type = sT)
    (ht : P.underlying t = some (.slice e)) (he : P.underlying e = some (.struct #[f0, f1])) (hone : oneCellFields P #[f0, f1] = true) (hC : P.cellsOf e = 2)
    (h0 : f0.type = sT) (h1 : f1.type = sT) (hs : P.underlying sT = some .string) (hv : Value.okWide P w r b0 ta v) (h : DataW.Trod enc P w 0 (fun _ => true) true ta v d p) :
    ∃ A l c b, v = .agg #[.slice A l.length c, .string b] ∧ Row w A (fldsV l) ∧ Sized l ∧ b.size ≤ maxLen ∧ ∃ y, d = .agg [y, .lit (.string b.data.toList)] ∧ (y = .nil ∧ l = [] ∨ ∃ sp, y = .slice (l.map (fdD H)) sp) := by
  obtain ⟨v0, v1, y0, y1, n, rfl, rfl, _, k0, k1⟩ := open_agg2 hta honea hCa hv h
  rw [hg0] at k0
  rw [hg1] at k1
  obtain ⟨A, l, c, rfl, hr, hsz, hy⟩ := open_fldsD ht he hone hC h0 h1 hs k0
  obtain ⟨s1, e1, d1, w1⟩ := DataW.trod_string hs k1
  simp at e1
  subst e1
  exact ⟨A, l, c, s1, rfl, hr, hsz, w1, y0.1, by rw [d1], hy⟩
end
end Go.Proofs.Ytcohgjdijhogbaa
