/- The reference's elements in memory: a mark, and 128 marks. -/
import Derived.Test.YtcknomaaikeebaaDoorWm3
import Derived.Deep.MidRow
namespace Go.Proofs.YtcknomaaikeebaaDoor
set_option linter.unusedSimpArgs false
set_option linter.unusedVariables false
open Go.RowKit

/-- The cells of an element. -/
def blk (s : Bool) (f : Nat → Bool) : List Value := .bool s :: (List.range 128).map fun k => .bool (f k)
theorem blk_len (s : Bool) (f : Nat → Bool) : (blk s f).length = 129 := by simp [blk]
theorem blk_size (s : Bool) (f : Nat → Bool) : (blk s f).toArray.size = 129 := by simp [blk_len]
theorem blk_one (s : Bool) (f : Nat → Bool) : ∀ v ∈ blk s f, v.oneCell' = true := by
  intro v hv
  simp only [blk, List.mem_cons, List.mem_map] at hv
  rcases hv with rfl | ⟨k, _, rfl⟩ <;> rfl
theorem blk_all (s : Bool) (f : Nat → Bool) : (blk s f).toArray.all (·.oneCell') = true := all_oneCell_toArray (blk_one s f)
theorem blk_at0 (s : Bool) (f : Nat → Bool) : (blk s f)[0]? = some (.bool s) := rfl
theorem blk_at (s : Bool) (f : Nat → Bool) (k : Nat) (h : k < 128) : (blk s f)[k + 1]? = some (.bool (f k)) := by
  simp [blk, h]
theorem blk_congr (s : Bool) {f g : Nat → Bool} (h : ∀ k, k < 128 → f k = g k) : blk s f = blk s g := by
  unfold blk
  congr 1
  apply List.map_congr_left
  intro k hk
  rw [h k (List.mem_range.1 hk)]
def upd (f : Nat → Bool) (k : Nat) (v : Bool) : Nat → Bool := fun j => if j = k then v else f j
structure EAt (w : World) (b : Nat) (s : Bool) (f : Nat → Bool) : Prop where
  range : w.rangeAt b 0 (blk s f)
  free : w.there b 0 129
theorem EAt.congr {w : World} {b : Nat} {s : Bool} {f g : Nat → Bool} (h : EAt w b s f) (e : ∀ k, k < 128 → f k = g k) : EAt w b s g := ⟨by rw [← blk_congr s e]; exact h.range, h.free⟩
theorem EAt.cell {w : World} {b : Nat} {s : Bool} {f : Nat → Bool} (h : EAt w b s f) (k : Nat) (hk : k < 128) : w.cell? ⟨b, 1 + k, none⟩ = some (.bool (f k)) := by
  have := h.range (k + 1) _ (blk_at s f k hk)
  rw [Nat.zero_add, Nat.add_comm k 1] at this
  exact this
theorem EAt.cell0 {w : World} {b : Nat} {s : Bool} {f : Nat → Bool} (h : EAt w b s f) : w.cell? ⟨b, 0, none⟩ = some (.bool s) := h.range 0 _ rfl
theorem EAt.lt {w : World} {b : Nat} {s : Bool} {f : Nat → Bool} (h : EAt w b s f) : b < w.heap.size := World.block_lt_of_cell? w _ h.cell0
theorem EAt.frozen {w : World} {b : Nat} {s : Bool} {f : Nat → Bool} (h : EAt w b s f) (k : Nat) (hk : k < 128) : w.frozen? ⟨b, 1 + k, none⟩ = false := by
  have := (h.free (1 + k) (by omega)).2
  rw [Nat.zero_add] at this
  exact this
theorem EAt.frozen0 {w : World} {b : Nat} {s : Bool} {f : Nat → Bool} (h : EAt w b s f) : w.frozen? ⟨b, 0, none⟩ = false := (h.free 0 (by omega)).2
theorem there_set {w : World} {b o n : Nat} (h : w.there b o n) (p : Addr) (v : Value) : (w.setCell p v).there b o n := fun j hj => by
  obtain ⟨h1, h2⟩ := h j hj
  obtain ⟨u, hu⟩ := Option.isSome_iff_exists.1 h1
  obtain ⟨u', hu'⟩ := cell?_setCell_some (p := p) (x := v) hu
  exact ⟨by rw [hu']; rfl, by rw [World.frozen?_setCell]; exact h2⟩
theorem EAt.set {w : World} {b : Nat} {s : Bool} {f : Nat → Bool} (h : EAt w b s f) (k : Nat) (hk : k < 128) (v : Bool) : EAt (w.setCell ⟨b, 1 + k, none⟩ (.bool v)) b s (upd f k v) := by
  refine ⟨fun j u hu => ?_, there_set h.free _ _⟩
  rw [Nat.zero_add]
  have hj : j < 129 := by have := (List.getElem?_eq_some_iff.1 hu).1; rwa [blk_len] at this
  by_cases e : j = 1 + k
  · subst e
    rw [World.cell?_setCell_same _ _ _ (h.cell k hk)]
    rw [Nat.add_comm 1 k, blk_at _ _ _ hk] at hu
    rw [← hu]; simp [upd]
  · rw [World.cell?_setCell_other _ _ _ _ (fun e' => e (by injection e' with _ e' _; omega))]
    cases j with
    | zero => rw [← hu]; exact h.cell0
    | succ j =>
      rw [blk_at _ _ _ (by omega)] at hu
      rw [Nat.add_comm j 1, h.cell j (by omega), ← hu, upd, if_neg (by omega)]
theorem EAt.set0 {w : World} {b : Nat} {s : Bool} {f : Nat → Bool} (h : EAt w b s f) (v : Bool) : EAt (w.setCell ⟨b, 0, none⟩ (.bool v)) b v f := by
  refine ⟨fun j u hu => ?_, there_set h.free _ _⟩
  rw [Nat.zero_add]
  have hj : j < 129 := by have := (List.getElem?_eq_some_iff.1 hu).1; rwa [blk_len] at this
  cases j with
  | zero => rw [World.cell?_setCell_same _ _ _ h.cell0, ← hu]; rfl
  | succ j =>
    rw [World.cell?_setCell_other _ _ _ _ (fun e' => by injection e' with _ e' _; omega)]
    rw [blk_at _ _ _ (by omega)] at hu
    rw [Nat.add_comm j 1, h.cell j (by omega), ← hu]
theorem EAt.below {w w' : World} {b : Nat} {s : Bool} {f : Nat → Bool} (h : EAt w b s f) (hb : Below w.heap.size w w') : EAt w' b s f :=
  ⟨fun j v hv => (hb.cell (p := ⟨b, 0 + j, none⟩) h.lt).trans (h.range j v hv), fun j hj => ⟨by rw [hb.cell (p := ⟨b, 0 + j, none⟩) h.lt]; exact (h.free j hj).1, by rw [hb.frozen (p := ⟨b, 0 + j, none⟩) h.lt]; exact (h.free j hj).2⟩⟩
theorem EAt.other {w : World} {b : Nat} {s : Bool} {f : Nat → Bool} (h : EAt w b s f) (p : Addr) (v : Value) (hne : b ≠ p.block) : EAt (w.setCell p v) b s f :=
  ⟨fun j u hu => by rw [World.cell?_setCell_other _ _ _ _ (fun e => hne (by rw [e]))]; exact h.range j u hu, there_set h.free _ _⟩
theorem EAt.apart {w : World} {b c o : Nat} {s : Bool} {f : Nat → Bool} {vs : List Value} (h : EAt w b s f) (hne : b ≠ c) : EAt (w.setCells c o vs) b s f :=
  ⟨World.rangeAt_setCells_apart h.range c o vs (.inl hne), World.there_setCells h.free c o vs⟩
theorem EAt.stored {w : World} {b : Nat} {s s' : Bool} {f f' : Nat → Bool} (h : EAt w b s f) : EAt (w.setCells b 0 (blk s' f')) b s' f' :=
  ⟨World.rangeAt_setCells_same w b 0 _ (by rw [blk_len]; exact h.free), World.there_setCells h.free b 0 _⟩
theorem EAt.new (w : World) (T : TypeId) (s : Bool) (f : Nat → Bool) : EAt (w.alloc (.cells (blk s f).toArray T)) w.heap.size s f := by
  have hh := heap_alloc_new w (.cells (blk s f).toArray T)
  refine ⟨fun j v hv => ?_, fun j hj => ⟨?_, Lib.frozen_of_heap hh _⟩⟩
  · rw [Nat.zero_add, Lib.cell_of_heap hh]; simpa using hv
  · rw [Nat.zero_add, Lib.cell_of_heap hh]; simp [blk_len, hj]
theorem below_setCells {N b : Nat} (hN : N ≤ b) : ∀ (vs : List Value) (o : Nat) (w w' : World), Below N w w' → Below N w (w'.setCells b o vs)
  | [], _, _, _, h => h
  | v :: r, o, w, w', h => below_setCells hN r (o + 1) w _ (h.setCell (p := ⟨b, o, none⟩) hN v)
theorem size_setCells (b : Nat) : ∀ (vs : List Value) (o : Nat) (w : World), (w.setCells b o vs).heap.size = w.heap.size
  | [], _, _ => rfl
  | v :: r, o, w => by rw [World.setCells, size_setCells b r]; simp

def eZ : Nat → Bool := fun _ => false
theorem info_E : (Tryd.prog.info? 57).map (fun i => (i.zero, i.size, i.bytes)) = some (some (.agg (blk false eZ).toArray), 129, 129) := by kernel_rfl
theorem size_E (s : Bool) (f : Nat → Bool) : (Tryd.prog.info? 57).map (·.size) = some (blk s f).length := by rw [blk_len]; kernel_rfl
theorem size_E' (s : Bool) (f : Nat → Bool) : (Tryd.prog.info? 57).map (·.size) = some (blk s f).toArray.size := by rw [blk_size]; kernel_rfl
section
variable {ops : Array Oper} {rest : List Oper} {op : Oper} {a : Act} {w : World} {Q : Exit → Act → World → Prop}
theorem wpList_allocE (hgd : op.guard = none) (ho : op.op = .alloc 57)
    (h : ∀ W, EAt W w.heap.size false eZ → Below w.heap.size w W → W.heap.size = w.heap.size + 1 → wpList Tryd.prog ops Q rest (a.put op.dst (.pointer (some ⟨w.heap.size, 0, none⟩))) W) : wpList Tryd.prog ops Q (op :: rest) a w := by
  obtain ⟨i, hi, hz0, hz1, hz2⟩ := info_parts info_E
  refine wpList_plain hgd fun _ hK => ?_
  have hrun : (Instr.alloc 57 true (.tuple #[])).run Tryd.prog w = .ok (.pointer (some ⟨w.heap.size, 0, none⟩)) (w.alloc (.cells (blk false eZ).toArray 57)) := by
    simp [Instr.alloc, zeroValue, typeInfo, hi, hz0, newVar, newRow, newObj, Value.cells]
    rfl
  unfold Oper.wp execOp
  simp only [ho, hrun, Result.andThen_ok, Sem.run_bind, Sem.run_pure]
  exact hK _ _ (h _ (EAt.new w _ _ _) ((Below.refl _ _).alloc (Nat.le_refl _) _) (by simp))
theorem wpList_loadE (hgd : op.guard = none) (x : Operand) (ho : op.op = .load 57 x) {b : Nat} {s : Bool} {f : Nat → Bool} (hE : EAt w b s f) (hx : a.eval x = .pointer (some ⟨b, 0, none⟩))
    (h : ∀ V, Hid (V = Value.agg (blk s f).toArray) → wpList Tryd.prog ops Q rest (a.put op.dst V) w) : wpList Tryd.prog ops Q (op :: rest) a w :=
  wpList_load_mid hgd _ x ho b 0 hx _ _ hE.range Tryd.underlying57 rfl (size_E s f) (h _ (Lib.hid rfl))
theorem wpList_storeE (hgd : op.guard = none) (x y : Operand) (ho : op.op = .store 57 x y) {b : Nat} {s s' : Bool} {f f' : Nat → Bool} (hE : EAt w b s f) (hx : a.eval x = .pointer (some ⟨b, 0, none⟩)) {V : Value} (hV : Hid (V = Value.agg (blk s' f').toArray)) (hy : a.eval y = V)
    (h : ∀ W, Hid (W = w.setCells b 0 (blk s' f')) → wpList Tryd.prog ops Q rest (a.put op.dst undef) W) : wpList Tryd.prog ops Q (op :: rest) a w :=
  wpList_store_mid hgd _ x y ho b 0 _ hx (hy.trans hV.out) (by rw [blk_size]; exact hE.free) (size_E' s' f') (blk_all s' f') (h _ (Lib.hid (by simp)))
end
end Go.Proofs.YtcknomaaikeebaaDoor
