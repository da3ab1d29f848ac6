/- Lemmas and walks, part 46. -/
import Derived.Test.YtannhfnpigiggaaGreatDoorPs40
import Derived.Test.YtannhfnpigiggaaGreatDoorPs42
import Derived.Test.YtannhfnpigiggaaGreatDoorPs45
import Derived.Lib.SmallJoins
import Derived.OpenShut
import Derived.Deep.RegionHeld3
import Derived.Test.YtannhfnpigiggaaGreatDoorPs44
namespace Go.Proofs.YtannhfnpigiggaaGreatDoor
set_option linter.unusedSimpArgs false
set_option linter.unusedVariables false
open Go.ChangeShapes Go.WideShapes Go.ChangeAt Go.RowKit Go.Deep Go.Joins

section
variable {H : Type} {enc : TypeId × Value → H} {P : Program} {w : World} {base : Nat} {spare : Nat → Bool} {held : Bool}
theorem take1 {α : Type} {cs : List α} {i : Nat} {v : α} (h : (cs.drop i).take 1 = [v]) : cs[i]? = some v := by
  have := congrArg (fun l => l[0]?) h
  simpa [List.getElem?_take, List.getElem?_drop] using this
/-- A field of a struct that came in. -/
theorem field_of {fuel : Nat} {t e : TypeId} {fs : Array Field} {cs : List Value} {x : DataW H × List MemPlace} (ht : P.underlying t = some (.struct fs)) (h : DataW.trod enc P w base spare held fuel t cs = some x) (i : Nat) (nm : Field) (off c : Nat) (hi : fs[i]? = some nm) (he : nm.type = e) (ho : nm.offset = off) (hc : P.cellsOf e = c) :
    ∃ n y, DataW.trod enc P w base spare held n e ((cs.drop off).take c) = some y := by
  obtain ⟨xs, m, rfl, rfl, hl, hlen, hx⟩ := DataW.trod_struct ht h
  have := hx i nm hi
  rw [he, ho, hc] at this
  have hlt : i < xs.length := by
    rw [hlen]; exact (Array.getElem?_eq_some_iff.1 hi).1
  rw [List.getElem?_eq_getElem hlt] at this
  exact ⟨m, _, this⟩
theorem len_of {fuel : Nat} {t : TypeId} {fs : Array Field} {cs : List Value} {x : DataW H × List MemPlace} (ht : P.underlying t = some (.struct fs)) (h : DataW.trod enc P w base spare held fuel t cs = some x) : cs.length = P.cellsOf t := by
  obtain ⟨xs, m, rfl, rfl, hl, hlen, hx⟩ := DataW.trod_struct ht h
  exact hl
end

section
variable {H : Type} {enc : TypeId × Value → H} {w : World}
theorem size_int : Tryz.prog.cellsOf 3 = 1 := by kernel_rfl
end
end Go.Proofs.YtannhfnpigiggaaGreatDoor

namespace Go.Proofs.YtannhfnpigiggaaGreatDoor
set_option linter.unusedSimpArgs false
set_option linter.unusedVariables false
open Go.RowKit

end Go.Proofs.YtannhfnpigiggaaGreatDoor

namespace Go.Proofs.YtannhfnpigiggaaGreatDoor
set_option linter.unusedSimpArgs false
set_option linter.unusedVariables false
open Go.ChangeShapes Go.WideShapes Go.ChangeAt Go.RowKit Go.Deep Go.Joins

theorem so_list_of {α : Type} {Q : Nat → α → Prop} : ∀ n : Nat, (∀ i, i < n → ∃ x, Q i x) → ∃ l : List α, l.length = n ∧ ∀ i (h : i < l.length), Q i l[i] := by
  intro n
  induction n with
  | zero => intro _; exact ⟨[], rfl, fun i h => by simp at h⟩
  | succ n ih =>
    intro h
    obtain ⟨l, hl, hq⟩ := ih (fun i hi => h i (by omega))
    obtain ⟨x, hx⟩ := h n (by omega)
    refine ⟨l ++ [x], by simp [hl], fun i hi => ?_⟩
    by_cases e : i < l.length
    · rw [List.getElem_append_left e]; exact hq i e
    · have e2 : i = n := by simp at hi; omega
      subst e2
      simpa [List.getElem_append_right, hl] using hx
section
variable {H : Type} {enc : TypeId × Value → H} {w : World} {base : Nat} {spare : Nat → Bool} {held : Bool}
theorem size_res : Tryz.prog.cellsOf 39 = 4 := by kernel_rfl
theorem size_bool : Tryz.prog.cellsOf 4 = 1 := by kernel_rfl
theorem open_resC {fuel : Nat} {cs : List Value} {x : DataW H × List MemPlace} (h : DataW.trod enc Tryz.prog w base spare held fuel 39 cs = some x) : ∃ o, cs = r4C o := by
  have hl := len_of Tryz.underlying39 h
  rw [size_res] at hl
  obtain ⟨n0, y0, h0⟩ := field_of Tryz.underlying39 h 0 _ 0 1 rfl rfl rfl size_int
  obtain ⟨n1, y1, h1⟩ := field_of Tryz.underlying39 h 1 _ 1 1 rfl rfl rfl size_bool
  obtain ⟨n2, y2, h2⟩ := field_of Tryz.underlying39 h 2 _ 2 1 rfl rfl rfl size_bool
  obtain ⟨n3, y3, h3⟩ := field_of Tryz.underlying39 h 3 _ 3 1 rfl rfl rfl size_int
  obtain ⟨s, e0, _, w0⟩ := DataW.trod_int Tryz.underlying3 h0
  obtain ⟨k, e1, _⟩ := DataW.trod_bool Tryz.underlying4 h1
  obtain ⟨v, e2, _⟩ := DataW.trod_bool Tryz.underlying4 h2
  obtain ⟨a, e3, _, w3⟩ := DataW.trod_int Tryz.underlying3 h3
  refine ⟨⟨s, k, v, a⟩, List.ext_getElem? fun i => ?_⟩
  by_cases hi : i < 4
  · obtain rfl | rfl | rfl | rfl : i = 0 ∨ i = 1 ∨ i = 2 ∨ i = 3 := by omega
    · rw [take1 e0]; rfl
    · rw [take1 e1]; rfl
    · rw [take1 e2]; rfl
    · rw [take1 e3]; rfl
  · rw [List.getElem?_eq_none (by omega), List.getElem?_eq_none (by show 4 ≤ i; omega)]
set_option maxRecDepth 100000 in
theorem open_res {r : Reach} {b0 : Nat} {v : Value} {y : DataW H} {p : List MemPlace} (hv : Value.okWide Tryz.prog w r b0 69 v) (h : DataW.Trod enc Tryz.prog w 0 (fun _ => true) true 69 v y p) :
    ∃ (A : Option Addr) (l : List R4) (c : Nat), v = .slice A l.length c ∧ Row w A (r4V l) ∧ l.length ≤ maxLen ∧ l.length ≤ c ∧ (A = none → l = [] ∧ c = 0) := by
  obtain ⟨a0, len, cap, rfl⟩ := okWide_slice Tryz.underlying69 hv
  obtain ⟨fuel, hf⟩ := h
  rcases open_slice Tryz.underlying69 hf with ⟨hcs, hx⟩ | ⟨a, len', cap', m, n, D, Pl, hcs, hb, hl, hm, hmm, hx, hi⟩
  · simp [Value.cells] at hcs
    obtain ⟨rfl, rfl, rfl⟩ := hcs
    exact ⟨none, [], 0, rfl, Row.nil _ _, by simp [maxLen], by simp, fun _ => ⟨rfl, rfl⟩⟩
  · simp [Value.cells] at hcs
    obtain ⟨rfl, rfl, rfl⟩ := hcs
    have hmc : m = cap := by simpa using hmm
    subst hmc
    have hel : ∀ i, i < len → ∃ o : R4, ∀ j u, (r4C o)[j]? = some u → w.cell? (a.add (i * 4 + j)) = some u := by
      intro i hil
      obtain ⟨cs', hc, ht'⟩ := hi i (by omega)
      rw [size_res] at hc
      obtain ⟨o, rfl⟩ := open_resC ht'
      obtain ⟨_, hcl, hat⟩ := World.cells?_some hc
      refine ⟨o, fun j u hu => ?_⟩
      have hj : j < 4 := (List.getElem?_eq_some_iff.1 hu).1
      have q := hat j hj
      rw [Go.Deep.add_add] at q
      rw [q, hu]
    obtain ⟨l, hll, hq⟩ := so_list_of len hel
    subst hll
    refine ⟨some a, l, m, rfl, ?_, by omega, by omega, fun e => by cases e⟩
    by_cases hz : l = []
    · subst hz; exact Row.nil _ _
    · have hpos : 0 < l.length := List.length_pos_iff.2 hz
      have hc0 := hq 0 hpos 0 _ rfl
      have hsp := spot_none hc0
      have hlt := World.block_lt_of_cell? w _ hc0
      obtain ⟨bb, off, sp⟩ := a
      have hsp' : sp = none := by simpa [Addr.add] using hsp
      subst hsp'
      have hadd : ∀ j, (⟨bb, off, none⟩ : Addr).add j = ⟨bb, off + j, none⟩ := fun j => by
        unfold Addr.add
        split
        · rename_i h; subst h; rfl
        · rfl
      rw [hadd] at hlt
      refine Row.mk _ _ _ _ hlt fun j u hu => ?_
      have hj : j < l.length * 4 := by
        have := (List.getElem?_eq_some_iff.1 hu).1
        rwa [r4V_length] at this
      have hk : j / 4 < l.length := by omega
      have e0 := r4V_get l (j / 4) hk (j % 4) (by omega)
      rw [show j / 4 * 4 + j % 4 = j from by omega, hu] at e0
      have c0 := hq (j / 4) hk (j % 4) u e0.symm
      rw [hadd, show j / 4 * 4 + j % 4 = j from by omega] at c0
      exact c0
end
theorem r4V_take {w : World} {A : Option Addr} {l : List R4} (h : Row w A (r4V l)) (k : Nat) : Row w A (r4V (l.take k)) := by
  have e : r4V l = r4V (l.take k) ++ r4V (l.drop k) := by
    unfold r4V
    rw [← List.flatMap_append, List.take_append_drop]
  rw [e] at h
  rcases h with h | ⟨bb, o, e1, hlt, hc⟩
  · exact .inl (List.append_eq_nil_iff.1 h).1
  · refine .inr ⟨bb, o, e1, hlt, fun j v hv => hc j v ?_⟩
    rw [List.getElem?_append_left (List.getElem?_eq_some_iff.1 hv).1]; exact hv
theorem el_res : Elem Tryz.prog 69 39 4 24 := Elem.of Tryz.underlying69 (z := .agg #[.int .i64 0, .bool false, .bool false, .int .i64 0]) (by kernel_rfl) rfl (by omega)
theorem r4V_one (l : List R4) : ∀ u ∈ r4V l, u.oneCell' = true := by
  intro u hu
  unfold r4V at hu
  rw [List.mem_flatMap] at hu
  obtain ⟨r, _, hr⟩ := hu
  simp only [r4C, List.mem_cons, List.not_mem_nil, or_false] at hr
  rcases hr with rfl | rfl | rfl | rfl <;> rfl
theorem own_empty (w : World) (e : TypeId) : (w.alloc (.cells #[] e)).ownsRow w.heap.size e 4 (.slice (some ⟨w.heap.size, 0, none⟩) 0 0) 0 [] :=
  ⟨rfl, .inr ⟨w.heap.size, 0, #[], rfl, Nat.le_refl _, heap_alloc_new w _, Nat.le_refl _, by unfold maxLen; omega, rfl, rfl⟩⟩
end Go.Proofs.YtannhfnpigiggaaGreatDoor
