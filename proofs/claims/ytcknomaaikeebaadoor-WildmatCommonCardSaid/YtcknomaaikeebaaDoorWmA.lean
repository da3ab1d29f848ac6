/- Lists of patterns in memory. -/
import Derived.Test.YtcknomaaikeebaaDoorWm6
namespace Go.Proofs.YtcknomaaikeebaaDoor
set_option linter.unusedSimpArgs false
set_option linter.unusedVariables false
open Go.RowKit

abbrev entC (l : List (Nat × Int)) : List Value := l.flatMap fun p => [.pointer (some ⟨p.1, 0, none⟩), .int .i64 p.2]
theorem entC_length (l : List (Nat × Int)) : (entC l).length = l.length * 2 := by
  induction l with
  | nil => rfl
  | cons x r ih => simp [entC] at ih ⊢; omega
theorem entC_at (l : List (Nat × Int)) (k : Nat) (h : k < l.length) : (entC l)[k * 2]? = some (.pointer (some ⟨l[k].1, 0, none⟩)) ∧ (entC l)[k * 2 + 1]? = some (.int .i64 l[k].2) := by
  induction l generalizing k with
  | nil => simp at h
  | cons x r ih =>
    cases k with
    | zero => simp [entC]
    | succ k =>
      have := ih k (by simpa using h)
      simp only [entC, List.flatMap_cons] at this ⊢
      rw [show (k + 1) * 2 = k * 2 + 2 from by omega, List.getElem?_append_right (by simp), List.getElem?_append_right (by simp)]
      simpa using this
theorem entC_snoc (l : List (Nat × Int)) (b : Nat) (v : Int) : entC l ++ [.pointer (some ⟨b, 0, none⟩), .int .i64 v] = entC (l ++ [(b, v)]) := by simp [entC]
/-- The patterns of a list lie in memory. -/
def PatsAt (w : World) (l : List (Nat × Int)) (es : List Ent) : Prop := l.length = es.length ∧ ∀ (k : Nat) (p : Nat × Int) (e : Ent), l[k]? = some p → es[k]? = some e → p.2 = e.2 ∧ ∃ txt, PatT w p.1 txt e.1
theorem PatsAt.below {w w' : World} {l : List (Nat × Int)} {es : List Ent} (h : PatsAt w l es) (hb : Below w.heap.size w w') : PatsAt w' l es :=
  ⟨h.1, fun k p e h1 h2 => ⟨(h.2 k p e h1 h2).1, by obtain ⟨t, ht⟩ := (h.2 k p e h1 h2).2; exact ⟨t, ht.below hb⟩⟩⟩
theorem PatsAt.kept {w w' : World} {l : List (Nat × Int)} {es : List Ent} {row : Option Nat} (h : PatsAt w l es) (hg : w.grownBy w' row) (hr : ∀ g, row = some g → ∃ cur t fr, w.heap[g]? = some (.cells cur t fr) ∧ t ≠ 40 ∧ t ≠ 72) : PatsAt w' l es :=
  ⟨h.1, fun k p e h1 h2 => ⟨(h.2 k p e h1 h2).1, by obtain ⟨t, ht⟩ := (h.2 k p e h1 h2).2; exact ⟨t, ht.kept hg hr⟩⟩⟩
theorem PatsAt.snoc {w : World} {l : List (Nat × Int)} {es : List Ent} (h : PatsAt w l es) {b : Nat} {txt : ByteArray} {e : Ent} (hp : PatT w b txt e.1) : PatsAt w (l ++ [(b, e.2)]) (es ++ [e]) := by
  refine ⟨by simp [h.1], fun k p x h1 h2 => ?_⟩
  rcases Nat.lt_trichotomy k l.length with hk | hk | hk
  · rw [List.getElem?_append_left hk] at h1
    rw [List.getElem?_append_left (by rw [← h.1]; exact hk)] at h2
    exact h.2 k p x h1 h2
  · subst hk
    rw [List.getElem?_append_right (Nat.le_refl _)] at h1
    rw [List.getElem?_append_right (by rw [h.1]; exact Nat.le_refl _), ← h.1] at h2
    simp at h1 h2
    subst h1 h2
    exact ⟨rfl, txt, hp⟩
  · rw [List.getElem?_eq_none (by simp; omega)] at h1; cases h1
/-- A list at block b. -/
def ListAt (w : World) (b : Nat) (txt : ByteArray) (es : List Ent) : Prop := ∃ A c l, w.heap[b]? = some (.cells #[.string txt, .slice A es.length c] 79 (0, 0)) ∧ Row w A (entC l) ∧ PatsAt w l es
theorem ListAt.below {w w' : World} {b : Nat} {txt : ByteArray} {es : List Ent} (h : ListAt w b txt es) (hb : Below w.heap.size w w') : ListAt w' b txt es := by
  obtain ⟨A, c, l, h1, h2, h3⟩ := h
  exact ⟨A, c, l, (hb.block _ (heap_lt h1)).trans h1, h2.below hb, h3.below hb⟩
def ListV (w : World) (s : ByteArray) (x : List Ent × Nat × Int) (v : Value) : Prop := (x.2.2 = 0 ∧ ∃ b, v = .pointer (some ⟨b, 0, none⟩) ∧ ListAt w b s x.1) ∨ (x.2.2 ≠ 0 ∧ v = .pointer none)
def ListPost (s : ByteArray) (w : World) (e : Ending) (w' : World) : Prop := ∃ v, e = .returned (.tuple #[v, .int .i64 ((listF (toL s)).2.1 : Nat), .int .i64 (listF (toL s)).2.2]) ∧ ListV w' s (listF (toL s)) v ∧ Below w.heap.size w w'
theorem list_post_no {s : ByteArray} {w w' : World} {n : Nat} {k : Int} (h : listF (toL s) = ([], n, k)) (hk : k ≠ 0) (hb : Below w.heap.size w w') (N : Int) (hN : N = n) : ListPost s w (.returned (.tuple #[.pointer none, .int .i64 N, .int .i64 k])) w' := by
  subst hN
  refine ⟨.pointer none, by rw [h], ?_, hb⟩
  rw [h]; exact .inr ⟨hk, rfl⟩
/-- The list while it is read. -/
structure ListW (w : World) (s : ByteArray) (sb : Nat) (ps : List Bs) (l : List (Nat × Int)) (es : List Ent) (v : Value) (wr : World) : Prop where
  heap : wr.heap[w.heap.size]? = some (.cells #[.string s, v] 79 (0, 0))
  own : wr.ownsRow (w.heap.size + 1) 82 2 v es.length (entC l)
  pats : PatsAt wr l es
  split : wr.heap[sb]? = some (.cells (strsL ps).toArray 9 (0, 0))
  bel : Below w.heap.size w wr
theorem ListW.below {w : World} {s : ByteArray} {sb : Nat} {ps : List Bs} {l : List (Nat × Int)} {es : List Ent} {v : Value} {wr w' : World} (h : ListW w s sb ps l es v wr) (hb : Below wr.heap.size wr w') : ListW w s sb ps l es v w' :=
  ⟨(hb.block _ (heap_lt h.heap)).trans h.heap, own_below h.own hb, h.pats.below hb, (hb.block _ (heap_lt h.split)).trans h.split, h.bel.trans (hb.mono h.bel.size)⟩
/-- A write into a cell of another kind of block. -/
theorem ListW.kept {w : World} {s : ByteArray} {sb : Nat} {ps : List Bs} {l : List (Nat × Int)} {es : List Ent} {v : Value} {wr w' : World} {g : Nat} {cur : Array Value} (h : ListW w s sb ps l es v wr) (hg : wr.grownBy w' (some g)) (hh : wr.heap[g]? = some (.cells cur 82 (0, 0))) (hv : v.ownBlock ≠ some g) (hN : w.heap.size ≤ g) : ListW w s sb ps l es v w' := by
  have hr : ∀ g', (some g : Option Nat) = some g' → ∃ cur t fr, wr.heap[g']? = some (.cells cur t fr) ∧ t ≠ 40 ∧ t ≠ 72 := fun g' e => by
    injection e with e; subst e; exact ⟨_, _, _, hh, by decide, by decide⟩
  have ne : ∀ (b : Nat) (cs : Array Value) (T : TypeId), wr.heap[b]? = some (Obj.cells cs T (0, 0)) → T ≠ 82 → w'.heap[b]? = some (Obj.cells cs T (0, 0)) := fun b cs T hb hT =>
    (hg.block _ (heap_lt hb) (fun e => by injection e with e; subst e; rw [hh] at hb; injection hb with hb; injection hb with _ hb _; exact hT hb.symm)).trans hb
  exact ⟨ne _ _ _ h.heap (by decide), h.own.kept hg (.inr hv), h.pats.kept hg hr, ne _ _ _ h.split (by decide), h.bel.grown hg h.bel.size (fun k hk => by injection hk with hk; omega)⟩
theorem ListW.push {w : World} {s : ByteArray} {sb : Nat} {ps : List Bs} {l : List (Nat × Int)} {es : List Ent} {v v' : Value} {wr w1 : World} {b : Nat} {txt : ByteArray} {e : Ent} (h : ListW w s sb ps l es v wr) (hown : w1.ownsRow (w.heap.size + 1) 82 2 v' (es.length + 1) (entC l ++ [.pointer (some ⟨b, 0, none⟩), .int .i64 e.2])) (hg : wr.grownBy w1 v.ownBlock) (hp : PatT wr b txt e.1) :
    w1.heap[w.heap.size]? = some (.cells #[.string s, v] 79 (0, 0)) ∧ ListW w s sb ps (l ++ [(b, e.2)]) (es ++ [e]) v' (w1.setCell ⟨w.heap.size, 1, none⟩ v') := by
  have hty := own_type h.own
  have hr : ∀ g', v.ownBlock = some g' → ∃ cur t fr, wr.heap[g']? = some (.cells cur t fr) ∧ t ≠ 40 ∧ t ≠ 72 := fun g' e => by
    obtain ⟨cur, hh⟩ := hty g' e; exact ⟨_, _, _, hh, by decide, by decide⟩
  have ne : ∀ (b : Nat) (cs : Array Value) (T : TypeId), wr.heap[b]? = some (Obj.cells cs T (0, 0)) → T ≠ 82 → w1.heap[b]? = some (Obj.cells cs T (0, 0)) := fun b cs T hb hT =>
    (hg.block _ (heap_lt hb) (fun e => by obtain ⟨cur, hh⟩ := hty b e.symm; rw [hh] at hb; injection hb with hb; injection hb with _ hb _; exact hT hb.symm)).trans hb
  have hh := ne _ _ _ h.heap (by decide)
  have hsp := ne _ _ _ h.split (by decide)
  have hg2 : w1.grownBy (w1.setCell ⟨w.heap.size, 1, none⟩ v') (some w.heap.size) := grown_set (World.grownBy.refl _ _) 1 v'
  have hr2 : ∀ g', (some w.heap.size : Option Nat) = some g' → ∃ cur t fr, w1.heap[g']? = some (.cells cur t fr) ∧ t ≠ 40 ∧ t ≠ 72 := fun g' e => by
    injection e with e; subst e; exact ⟨_, _, _, hh, by decide, by decide⟩
  refine ⟨hh, ⟨heap_set hh _, ?_, ?_, ?_, ?_⟩⟩
  · have := ownsRow_setCell_below (a := ⟨w.heap.size, 1, none⟩) hown (by simp) v'
    rw [entC_snoc] at this
    simpa using this
  · exact ((h.pats.kept hg hr).kept hg2 hr2).snoc ((hp.kept hg hr).kept hg2 hr2)
  · rw [Below.heap_setCell _ _ _ _ (fun e => by
      have e' : sb = w.heap.size := e
      subst e'; rw [hh] at hsp; injection hsp with hsp; injection hsp with _ hsp _; exact absurd hsp (by decide))]
    exact hsp
  · have hs := h.bel.size
    exact (h.bel.grown hg hs (fun k hk => Nat.le_of_lt (Nat.lt_of_lt_of_le (Nat.lt_succ_self _) (h.own.lt k hk).1))).setCell (Nat.le_refl _) _
theorem ListW.list {w : World} {s : ByteArray} {sb : Nat} {ps : List Bs} {l : List (Nat × Int)} {es : List Ent} {v : Value} {wr : World} (h : ListW w s sb ps l es v wr) : ListAt wr w.heap.size s es := by
  rcases own_form h.own with ⟨rfl, h0⟩ | ⟨g, cap, rfl, hg1, hg2, _, hc⟩
  · have e0 : es = [] := List.eq_nil_of_length_eq_zero h0
    have e1 : l = [] := List.eq_nil_of_length_eq_zero (h.pats.1.trans h0)
    subst e0 e1
    exact ⟨none, 0, [], h.heap, Row.nil _ _, h.pats⟩
  · exact ⟨_, _, l, h.heap, Row.mk _ _ _ _ (by assumption) (fun j v hv => by rw [Nat.zero_add]; exact hc j v hv), h.pats⟩
theorem list_post_yes {s : ByteArray} {w wr : World} {sb : Nat} {ps : List Bs} {l : List (Nat × Int)} {es : List Ent} {v : Value} (h : listF (toL s) = (es, 0, 0)) (hc : ListW w s sb ps l es v wr) : ListPost s w (.returned (.tuple #[.pointer (some ⟨w.heap.size, 0, none⟩), .int .i64 0, .int .i64 0])) wr := by
  refine ⟨_, by rw [h]; rfl, ?_, hc.bel⟩
  rw [h]; exact .inl ⟨rfl, _, rfl, hc.list⟩
theorem info_ent : (Tryd.prog.info? 82).map (fun i => (i.zero, i.size, i.bytes)) = some (some (.agg #[.pointer none, .int .i64 0]), 2, 16) := by kernel_rfl
theorem el_ents : Elem Tryd.prog 77 82 2 16 := Elem.of Tryd.underlying77 info_ent rfl (by omega)
theorem pre_one (l : Bs) (c : UInt8) : Lib.hasPrefix l [c] = (l[0]? == some c) := by
  cases l with
  | nil => rfl
  | cons a r =>
    simp only [Lib.hasPrefix, List.isPrefixOf, List.getElem?_cons_zero]
    by_cases h : c = a
    · subst h; simp
    · have h' : ¬ a = c := fun e => h e.symm
      rw [beq_eq_false_iff_ne.2 h, beq_eq_false_iff_ne.2 (fun e => h' (Option.some.inj e))]; rfl
theorem verdF_33 {l : Bs} (h : l[0]? = some 33) : verdF l = (2, l.drop 1) := by
  cases l with
  | nil => cases h
  | cons a r => simp at h; subst h; rfl
theorem verdF_64 {l : Bs} (h : l[0]? = some 64) : verdF l = (3, l.drop 1) := by
  cases l with
  | nil => cases h
  | cons a r => simp at h; subst h; rfl
theorem verdF_no {l : Bs} (h : l[0]? ≠ some 33) (h2 : l[0]? ≠ some 64) : verdF l = (1, l) := by
  cases l with
  | nil => rfl
  | cons a r => simp at h h2; simp [verdF, h, h2]
end Go.Proofs.YtcknomaaikeebaaDoor
