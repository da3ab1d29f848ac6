/- Lemmas and walks, part 32. -/
import Derived.Test.YtghjgbkhhoaebaaGreatDoorPo30
import Derived.Test.YtghjgbkhhoaebaaGreatDoorPo31
import Derived.Deep.MidRow
import Derived.Deep.QuietTactic
import Derived.Laws.Cover3
namespace Go.Proofs.YtghjgbkhhoaebaaGreatDoor
set_option linter.unusedSimpArgs false
set_option linter.unusedVariables false
open Go.RowKit

/-- At most the blocks S have changed, all from n on; what is new is new. -/
structure Fr (n : Nat) (S : Nat → Prop) (w w' : World) : Prop where
  bel : Below n w w'
  oth : ∀ k, k < w.heap.size → ¬ S k → w'.heap[k]? = w.heap[k]?
theorem Fr.size {n : Nat} {S : Nat → Prop} {w w' : World} (h : Fr n S w w') : w.heap.size ≤ w'.heap.size := h.bel.size
theorem Fr.of {n : Nat} {S : Nat → Prop} {w w' : World} (h : Below w.heap.size w w') (hn : n ≤ w.heap.size) : Fr n S w w' := ⟨h.mono hn, fun k hk _ => h.block k hk⟩
theorem Fr.refl (n : Nat) (S : Nat → Prop) (w : World) : Fr n S w w := ⟨Below.refl _ _, fun _ _ _ => rfl⟩
/-- What was S, and what has come since. -/
def Ext (S : Nat → Prop) (w w' : World) (k : Nat) : Prop := S k ∨ (w.heap.size ≤ k ∧ k < w'.heap.size)
theorem Fr.trans {n : Nat} {S T : Nat → Prop} {w w1 w2 : World} (h : Fr n S w w1) (k : Fr n T w1 w2) (hT : ∀ i, T i → S i ∨ w.heap.size ≤ i) : Fr n S w w2 :=
  ⟨h.bel.trans k.bel, fun i hi hs => (k.oth i (Nat.lt_of_lt_of_le hi h.size) (fun ht => (hT i ht).elim hs (fun g => by omega))).trans (h.oth i hi hs)⟩
theorem Fr.weak {n : Nat} {S T : Nat → Prop} {w w' : World} (h : Fr n S w w') (hT : ∀ i, S i → T i) : Fr n T w w' := ⟨h.bel, fun k hk hn => h.oth k hk (fun hs => hn (hT k hs))⟩
theorem Fr.grown {n : Nat} {S : Nat → Prop} {w w1 w2 : World} {row : Option Nat} (h : Fr n S w w1) (hg : w1.grownBy w2 row) (hn : n ≤ w.heap.size) (hr : ∀ k, row = some k → n ≤ k ∧ (S k ∨ w.heap.size ≤ k)) : Fr n S w w2 :=
  ⟨h.bel.grown hg (Nat.le_trans hn h.size) (fun k hk => (hr k hk).1), fun i hi hs => (hg.block i (Nat.lt_of_lt_of_le hi h.size) (fun e => (hr i e.symm).2.elim hs (fun g => by omega))).trans (h.oth i hi hs)⟩
theorem Fr.below {n : Nat} {S : Nat → Prop} {w w1 w2 : World} (h : Fr n S w w1) (hb : Below w1.heap.size w1 w2) (hn : n ≤ w.heap.size) : Fr n S w w2 :=
  ⟨h.bel.trans (hb.mono (Nat.le_trans hn h.size)), fun i hi hs => (hb.block i (Nat.lt_of_lt_of_le hi h.size)).trans (h.oth i hi hs)⟩
theorem Fr.set {n : Nat} {S : Nat → Prop} {w w1 : World} (h : Fr n S w w1) {B i : Nat} (u : Value) (hB : n ≤ B) (hS : S B ∨ w.heap.size ≤ B) : Fr n S w (w1.setCell ⟨B, i, none⟩ u) :=
  ⟨h.bel.setCell (p := ⟨B, i, none⟩) hB u, fun k hk hs => (heap_set_ne u (fun e => by subst e; exact hS.elim hs (fun g => by omega))).trans (h.oth k hk hs)⟩
theorem Fr.drew {n : Nat} {S : Nat → Prop} {w w1 : World} (h : Fr n S w w1) : Fr n S w w1.drew := ⟨h.bel.drew, h.oth⟩
theorem own_oth {w w' : World} {base : Nat} {e : TypeId} {size n : Nat} {v : Value} {xs : List Value} (h : w.ownsRow base e size v n xs) (hk : ∀ k, v.ownBlock = some k → w'.heap[k]? = w.heap[k]?) : w'.ownsRow base e size v n xs := by
  refine ⟨h.1, ?_⟩
  rcases h.2 with h2 | ⟨g, cap, cur, rfl, hg', hh, r⟩
  · exact .inl h2
  · exact .inr ⟨g, cap, cur, rfl, hg', (hk g rfl).trans hh, r⟩
theorem map_oth {w w' : World} {b : Nat} {ps : List (List Int)} (h : IdMap w b ps) (hk : w'.heap[b]? = w.heap[b]?) : IdMap w' b ps := by
  obtain ⟨es, clock, hb, he⟩ := h
  exact ⟨es, clock, hk.trans hb, he⟩
/-- A gateway: its box, its lines, its two maps; A holds its blocks. -/
structure GwS (n : Nat) (A : Nat → Prop) (w : World) (b : Nat) (R G N : ByteArray) (ls : List Ln) (last : Int) (made read : List (List Int)) (v : Value) (m1 m2 : Nat) : Prop where
  at_ : GwAt w b R G N v ls last m1 m2
  mm : IdMap w m1 made
  mr : IdMap w m2 read
  ne : m1 ≠ m2
  inb : A b
  in1 : A m1
  in2 : A m2
  inv : ∀ k, v.ownBlock = some k → A k
  lo : ∀ k, A k → n ≤ k
  hi : ∀ k, A k → k < w.heap.size
theorem GwS.keep {n : Nat} {A B : Nat → Prop} {w w' : World} {b : Nat} {R G N : ByteArray} {ls : List Ln} {last : Int} {made read : List (List Int)} {v : Value} {m1 m2 : Nat} (h : GwS n A w b R G N ls last made read v m1 m2) (hf : Fr n B w w') (hd : ∀ k, A k → ¬ B k) : GwS n A w' b R G N ls last made read v m1 m2 :=
  have hk : ∀ k, A k → w'.heap[k]? = w.heap[k]? := fun k ha => hf.oth k (h.hi k ha) (hd k ha)
  ⟨⟨(hk b h.inb).trans h.at_.box, own_oth h.at_.own fun k e => hk k (h.inv k e)⟩, map_oth h.mm (hk _ h.in1), map_oth h.mr (hk _ h.in2), h.ne, h.inb, h.in1, h.in2, h.inv, h.lo, fun k ha => Nat.lt_of_lt_of_le (h.hi k ha) hf.size⟩
theorem GwS.below {n : Nat} {A : Nat → Prop} {w w' : World} {b : Nat} {R G N : ByteArray} {ls : List Ln} {last : Int} {made read : List (List Int)} {v : Value} {m1 m2 : Nat} (h : GwS n A w b R G N ls last made read v m1 m2) (hb : Below w.heap.size w w') : GwS n A w' b R G N ls last made read v m1 m2 :=
  have hk : ∀ k, A k → w'.heap[k]? = w.heap[k]? := fun k ha => hb.block k (h.hi k ha)
  ⟨⟨(hk b h.inb).trans h.at_.box, own_oth h.at_.own fun k e => hk k (h.inv k e)⟩, map_oth h.mm (hk _ h.in1), map_oth h.mr (hk _ h.in2), h.ne, h.inb, h.in1, h.in2, h.inv, h.lo, fun k ha => Nat.lt_of_lt_of_le (h.hi k ha) hb.size⟩
/-- A gateway, its slice and its maps anywhere. -/
def GwX (n : Nat) (A : Nat → Prop) (w : World) (b : Nat) (R G N : ByteArray) (ls : List Ln) (last : Int) (made read : List (List Int)) : Prop := ∃ v m1 m2, GwS n A w b R G N ls last made read v m1 m2
theorem GwX.keep {n : Nat} {A B : Nat → Prop} {w w' : World} {b : Nat} {R G N : ByteArray} {ls : List Ln} {last : Int} {made read : List (List Int)} (h : GwX n A w b R G N ls last made read) (hf : Fr n B w w') (hd : ∀ k, A k → ¬ B k) : GwX n A w' b R G N ls last made read := by
  obtain ⟨v, m1, m2, h⟩ := h; exact ⟨v, m1, m2, h.keep hf hd⟩
theorem GwX.below {n : Nat} {A : Nat → Prop} {w w' : World} {b : Nat} {R G N : ByteArray} {ls : List Ln} {last : Int} {made read : List (List Int)} (h : GwX n A w b R G N ls last made read) (hb : Below w.heap.size w w') : GwX n A w' b R G N ls last made read := by
  obtain ⟨v, m1, m2, h⟩ := h; exact ⟨v, m1, m2, h.below hb⟩
theorem GwX.more {n : Nat} {A B : Nat → Prop} {w : World} {b : Nat} {R G N : ByteArray} {ls : List Ln} {last : Int} {made read : List (List Int)} (h : GwX n A w b R G N ls last made read) (hs : ∀ k, A k → B k) (lo : ∀ k, B k → n ≤ k) (hi : ∀ k, B k → k < w.heap.size) : GwX n B w b R G N ls last made read := by
  obtain ⟨v, m1, m2, h⟩ := h; exact ⟨v, m1, m2, h.at_, h.mm, h.mr, h.ne, hs _ h.inb, hs _ h.in1, hs _ h.in2, fun k e => hs k (h.inv k e), lo, hi⟩

theorem ar32 : Ar32 Tryz.prog 23 5 := ⟨by kernel_rfl, by kernel_rfl, fun w => by kernel_rfl, fun w => by kernel_rfl⟩
theorem map_ids : Tryz.prog.underlying 69 = some (.map 23 4) := by kernel_rfl
theorem zero_bool (w : World) : (zeroValue 4).run Tryz.prog w = .ok (.bool false) w := by kernel_rfl
/-- The 32 numbers of an identity. -/
abbrev idN (f : Nat → Int) : List Int := [f 0, f 1, f 2, f 3, f 4, f 5, f 6, f 7, f 8, f 9, f 10, f 11, f 12, f 13, f 14, f 15, f 16, f 17, f 18, f 19, f 20, f 21, f 22, f 23, f 24, f 25, f 26, f 27, f 28, f 29, f 30, f 31]
abbrev idA (f : Nat → Int) : Value := .agg #[.int .u8 (f 0), .int .u8 (f 1), .int .u8 (f 2), .int .u8 (f 3), .int .u8 (f 4), .int .u8 (f 5), .int .u8 (f 6), .int .u8 (f 7), .int .u8 (f 8), .int .u8 (f 9), .int .u8 (f 10), .int .u8 (f 11), .int .u8 (f 12), .int .u8 (f 13), .int .u8 (f 14), .int .u8 (f 15), .int .u8 (f 16), .int .u8 (f 17), .int .u8 (f 18), .int .u8 (f 19), .int .u8 (f 20), .int .u8 (f 21), .int .u8 (f 22), .int .u8 (f 23), .int .u8 (f 24), .int .u8 (f 25), .int .u8 (f 26), .int .u8 (f 27), .int .u8 (f 28), .int .u8 (f 29), .int .u8 (f 30), .int .u8 (f 31)]
theorem idA_eq (f : Nat → Int) : idV (idN f) = idA f := rfl
theorem idN_len (f : Nat → Int) : (idN f).length = 32 := rfl
theorem look_id {w : World} {b : Nat} {ps : List (List Int)} (h : IdMap w b ps) (f : Nat → Int) : (Instr.lookup 69 (.map (some b)) (idA f) false).run Tryz.prog w = .ok (.bool (decide (idN f ∈ ps))) w :=
  h.look ar32 map_ids zero_bool (idN f) (idN_len f)
theorem put_id {w : World} {b : Nat} {ps : List (List Int)} (h : IdMap w b ps) (f : Nat → Int) (hp : idN f ∉ ps) : ∃ w', (Instr.mapUpdate 69 (.map (some b)) (idA f) (.bool true)).run Tryz.prog w = .ok () w' ∧ IdMap w' b (ps ++ [idN f]) ∧ w.grownBy w' (some b) ∧ w'.heap.size = w.heap.size :=
  h.put ar32 map_ids (idN f) (idN_len f) hp
/-- An article as a gateway sees it. -/
abbrev postC (f : Nat → Int) (N S B : ByteArray) (d : Int) : Array Value := #[.int .u8 (f 0), .int .u8 (f 1), .int .u8 (f 2), .int .u8 (f 3), .int .u8 (f 4), .int .u8 (f 5), .int .u8 (f 6), .int .u8 (f 7), .int .u8 (f 8), .int .u8 (f 9), .int .u8 (f 10), .int .u8 (f 11), .int .u8 (f 12), .int .u8 (f 13), .int .u8 (f 14), .int .u8 (f 15), .int .u8 (f 16), .int .u8 (f 17), .int .u8 (f 18), .int .u8 (f 19), .int .u8 (f 20), .int .u8 (f 21), .int .u8 (f 22), .int .u8 (f 23), .int .u8 (f 24), .int .u8 (f 25), .int .u8 (f 26), .int .u8 (f 27), .int .u8 (f 28), .int .u8 (f 29), .int .u8 (f 30), .int .u8 (f 31), .string N, .string S, .string B, .int .i64 d]
abbrev postV (f : Nat → Int) (N S B : ByteArray) (d : Int) : Value := .agg (postC f N S B d)
theorem post_cells {W : World} {B : Nat} {f : Nat → Int} {N S T : ByteArray} {d : Int} {t : TypeId} {fr : Nat × Nat} (h : W.heap[B]? = some (.cells (postC f N S T d) t fr)) : W.cell? ⟨B, 0, none⟩ = some (.int .u8 (f 0)) ∧ W.cell? ⟨B, 1, none⟩ = some (.int .u8 (f 1)) ∧ W.cell? ⟨B, 2, none⟩ = some (.int .u8 (f 2)) ∧ W.cell? ⟨B, 3, none⟩ = some (.int .u8 (f 3)) ∧ W.cell? ⟨B, 4, none⟩ = some (.int .u8 (f 4)) ∧ W.cell? ⟨B, 5, none⟩ = some (.int .u8 (f 5)) ∧ W.cell? ⟨B, 6, none⟩ = some (.int .u8 (f 6)) ∧ W.cell? ⟨B, 7, none⟩ = some (.int .u8 (f 7)) ∧ W.cell? ⟨B, 8, none⟩ = some (.int .u8 (f 8)) ∧ W.cell? ⟨B, 9, none⟩ = some (.int .u8 (f 9)) ∧ W.cell? ⟨B, 10, none⟩ = some (.int .u8 (f 10)) ∧ W.cell? ⟨B, 11, none⟩ = some (.int .u8 (f 11)) ∧ W.cell? ⟨B, 12, none⟩ = some (.int .u8 (f 12)) ∧ W.cell? ⟨B, 13, none⟩ = some (.int .u8 (f 13)) ∧ W.cell? ⟨B, 14, none⟩ = some (.int .u8 (f 14)) ∧ W.cell? ⟨B, 15, none⟩ = some (.int .u8 (f 15)) ∧ W.cell? ⟨B, 16, none⟩ = some (.int .u8 (f 16)) ∧ W.cell? ⟨B, 17, none⟩ = some (.int .u8 (f 17)) ∧ W.cell? ⟨B, 18, none⟩ = some (.int .u8 (f 18)) ∧ W.cell? ⟨B, 19, none⟩ = some (.int .u8 (f 19)) ∧ W.cell? ⟨B, 20, none⟩ = some (.int .u8 (f 20)) ∧ W.cell? ⟨B, 21, none⟩ = some (.int .u8 (f 21)) ∧ W.cell? ⟨B, 22, none⟩ = some (.int .u8 (f 22)) ∧ W.cell? ⟨B, 23, none⟩ = some (.int .u8 (f 23)) ∧ W.cell? ⟨B, 24, none⟩ = some (.int .u8 (f 24)) ∧ W.cell? ⟨B, 25, none⟩ = some (.int .u8 (f 25)) ∧ W.cell? ⟨B, 26, none⟩ = some (.int .u8 (f 26)) ∧ W.cell? ⟨B, 27, none⟩ = some (.int .u8 (f 27)) ∧ W.cell? ⟨B, 28, none⟩ = some (.int .u8 (f 28)) ∧ W.cell? ⟨B, 29, none⟩ = some (.int .u8 (f 29)) ∧ W.cell? ⟨B, 30, none⟩ = some (.int .u8 (f 30)) ∧ W.cell? ⟨B, 31, none⟩ = some (.int .u8 (f 31)) :=
  ⟨by rw [Lib.cell_of_heap h]; rfl, by rw [Lib.cell_of_heap h]; rfl, by rw [Lib.cell_of_heap h]; rfl, by rw [Lib.cell_of_heap h]; rfl, by rw [Lib.cell_of_heap h]; rfl, by rw [Lib.cell_of_heap h]; rfl, by rw [Lib.cell_of_heap h]; rfl, by rw [Lib.cell_of_heap h]; rfl, by rw [Lib.cell_of_heap h]; rfl, by rw [Lib.cell_of_heap h]; rfl, by rw [Lib.cell_of_heap h]; rfl, by rw [Lib.cell_of_heap h]; rfl, by rw [Lib.cell_of_heap h]; rfl, by rw [Lib.cell_of_heap h]; rfl, by rw [Lib.cell_of_heap h]; rfl, by rw [Lib.cell_of_heap h]; rfl, by rw [Lib.cell_of_heap h]; rfl, by rw [Lib.cell_of_heap h]; rfl, by rw [Lib.cell_of_heap h]; rfl, by rw [Lib.cell_of_heap h]; rfl, by rw [Lib.cell_of_heap h]; rfl, by rw [Lib.cell_of_heap h]; rfl, by rw [Lib.cell_of_heap h]; rfl, by rw [Lib.cell_of_heap h]; rfl, by rw [Lib.cell_of_heap h]; rfl, by rw [Lib.cell_of_heap h]; rfl, by rw [Lib.cell_of_heap h]; rfl, by rw [Lib.cell_of_heap h]; rfl, by rw [Lib.cell_of_heap h]; rfl, by rw [Lib.cell_of_heap h]; rfl, by rw [Lib.cell_of_heap h]; rfl, by rw [Lib.cell_of_heap h]; rfl⟩
theorem post_text {W : World} {B : Nat} {f : Nat → Int} {N S T : ByteArray} {d : Int} {t : TypeId} {fr : Nat × Nat} (h : W.heap[B]? = some (.cells (postC f N S T d) t fr)) : W.cell? ⟨B, 32, none⟩ = some (.string N) ∧ W.cell? ⟨B, 33, none⟩ = some (.string S) ∧ W.cell? ⟨B, 34, none⟩ = some (.string T) ∧ W.cell? ⟨B, 35, none⟩ = some (.int .i64 d) :=
  ⟨by rw [Lib.cell_of_heap h]; rfl, by rw [Lib.cell_of_heap h]; rfl, by rw [Lib.cell_of_heap h]; rfl, by rw [Lib.cell_of_heap h]; rfl⟩
theorem size_Id : (Tryz.prog.info? 23).map (·.size) = some 32 := by kernel_rfl
theorem size_Post : (Tryz.prog.info? 25).map (·.size) = some 36 := by kernel_rfl
theorem range_id {W : World} {B : Nat} {f : Nat → Int} {N S T : ByteArray} {d : Int} {t : TypeId} {fr : Nat × Nat} (h : W.heap[B]? = some (.cells (postC f N S T d) t fr)) : W.rangeAt B 0 (idC (idN f)) := fun j v hv => by
  have hj : j < 32 := by
    have := (List.getElem?_eq_some_iff.1 hv).1
    simpa [idC] using this
  rw [Nat.zero_add, Lib.cell_of_heap h]
  rw [← hv]
  have : ∀ j < 32, (postC f N S T d)[j]? = (idC (idN f))[j]? := by
    intro j hj
    iterate 32 (rcases j with _ | j; · rfl)
    omega
  exact this j hj
/-- The load of an identity, and of a whole article. -/
theorem load_id {W : World} {B : Nat} {f : Nat → Int} {N S T : ByteArray} {d : Int} {t : TypeId} {fr : Nat × Nat} (h : W.heap[B]? = some (.cells (postC f N S T d) t fr)) : (Instr.loadAt 23 (.pointer (some ⟨B, 0, none⟩))).run Tryz.prog W = .ok (idA f) W := by
  have hc := range_id h
  have hl := run_loadVar_mid (P := Tryz.prog) W B 0 23 (idC (idN f)) _ hc Tryz.underlying23 rfl size_Id
  unfold Instr.loadAt
  rw [show (Instr.sureAddr (.pointer (some ⟨B, 0, none⟩)) : Sem Addr) = pure ⟨B, 0, none⟩ from rfl]
  simp only [Sem.run_bind, Sem.run_pure, Result.andThen_ok]
  exact hl
theorem load_post {W : World} {B : Nat} {f : Nat → Int} {N S T : ByteArray} {d : Int} {t : TypeId} {fr : Nat × Nat} (h : W.heap[B]? = some (.cells (postC f N S T d) t fr)) : (Instr.loadAt 25 (.pointer (some ⟨B, 0, none⟩))).run Tryz.prog W = .ok (postV f N S T d) W := by
  have hc : W.rangeAt B 0 (postC f N S T d).toList := fun j v hv => by
    rw [Nat.zero_add, Lib.cell_of_heap h]; simpa using hv
  have hl := run_loadVar_mid (P := Tryz.prog) W B 0 25 (postC f N S T d).toList _ hc Tryz.underlying25 rfl size_Post
  unfold Instr.loadAt
  rw [show (Instr.sureAddr (.pointer (some ⟨B, 0, none⟩)) : Sem Addr) = pure ⟨B, 0, none⟩ from rfl]
  simp only [Sem.run_bind, Sem.run_pure, Result.andThen_ok]
  exact hl
theorem map_nil (T : TypeId) (w : World) (b : Nat) (h : Tryz.prog.underlying T = some (.map 23 4)) : (binOp .eql T (.map (some b)) (.map none)).run Tryz.prog w = .ok (.bool false) w := by
  simp [binOp, run_equal_map_nil w T _ _ (some b) h]
/-- A load by its own law, in a region that is walked once, and in a plain one. -/
theorem wpQuiet_load {P : Program} {ops : Array Oper} {C : World → Prop} {Q : Act → Prop} {a : Act} {o : Oper} {rest : List Oper} (hgd : o.guard = none) (t : TypeId) (x : Operand) (ho : o.op = .load t x) {p v : Value} (hx : a.eval x = p) (hl : ∀ w, C w → (Instr.loadAt t p).run P w = .ok v w)
    (h : wpQuiet P ops C Q rest (a.put o.dst v)) : wpQuiet P ops C Q (o :: rest) a := by
  rw [wpQuiet, if_pos (by simp [Region.wanted, hgd])]
  refine ⟨v, fun w hc => ?_, h⟩
  unfold Oper.quietAt execOp
  simp only [ho, hx, hl w hc, Sem.run_bind, Result.andThen_ok, Sem.run_pure]
  exact ⟨rfl, rfl⟩
theorem wpList_loadAt {P : Program} {w : World} {ops : Array Oper} {rest : List Oper} {o : Oper} {a : Act} {Q : Exit → Act → World → Prop} (hgd : o.guard = none) (t : TypeId) (x : Operand) (ho : o.op = .load t x) {p v : Value} (hx : a.eval x = p) (hl : (Instr.loadAt t p).run P w = .ok v w)
    (h : wpList P ops Q rest (a.put o.dst v) w) : wpList P ops Q (o :: rest) a w := by
  refine wpList_plain hgd fun _ hK => ?_
  unfold Oper.wp execOp
  simp only [ho, hx, hl, Sem.run_bind, Result.andThen_ok, Sem.run_pure]
  exact hK _ _ h
end Go.Proofs.YtghjgbkhhoaebaaGreatDoor

namespace Go.Proofs.YtghjgbkhhoaebaaGreatDoor
set_option linter.unusedSimpArgs false
set_option linter.unusedVariables false
open Go.RowKit

theorem gwx_new {w w1 : World} {R G N : ByteArray} (hb1 : Below w.heap.size w w1) :
    GwX w.heap.size (fun k => w.heap.size ≤ k ∧ k < w1.heap.size + 3) (((w1.alloc (.map #[] 0)).alloc (.map #[] 0)).alloc (.cells #[.string R, .string G, .string N, .slice none 0 0, .int .i64 0, .map (some w1.heap.size), .map (some (w1.heap.size + 1))] 71)) (w1.heap.size + 1 + 1) R G N [] 0 [] [] := by
  have hz := hb1.size
  refine ⟨.slice none 0 0, w1.heap.size, w1.heap.size + 1, ⟨alloc_at _ _ _ (by simp), World.ownsRow_nil _ _ _ _⟩, ⟨#[], 0, ?_, rfl, by intro p h; cases h⟩, ⟨#[], 0, ?_, rfl, by intro p h; cases h⟩, by omega, ⟨by omega, by omega⟩, ⟨by omega, by omega⟩, ⟨by omega, by omega⟩, (by intro k h; cases h), fun k h => h.1, fun k h => by simp; omega⟩
  · exact (Lib.alloc_old _ _ _ (by simp; omega)).trans ((Lib.alloc_old _ _ _ (by simp)).trans (heap_alloc_new _ _))
  · exact (Lib.alloc_old _ _ _ (by simp)).trans (alloc_at _ _ _ (by simp))
set_option maxHeartbeats 2000000 in
set_option maxRecDepth 100000 in
theorem gw_newS (R G N : ByteArray) (w : World) (hsh : w.ShapedOpen Tryz.prog) (hR : R.size ≤ maxLen) (hG : G.size ≤ maxLen) (hN : N.size ≤ maxLen) (h1 : roomB (toL R) = true) (h2 : grpE (toL G) = 0) (h3 : nickB (toL N) = true) :
    Calls Tryz.prog 10 #[.string R, .string G, .string N] w fun e w' => ∃ b, e = .returned (.tuple #[.pointer (some ⟨b, 0, none⟩), .int .i64 0]) ∧ GwX w.heap.size (fun k => w.heap.size ≤ k ∧ k < w'.heap.size) w' b R G N [] 0 [] [] ∧ Below w.heap.size w w' := by
  have HR := Lib.hid (fun wx => gw_isRoom R wx hR)
  have HG := Lib.hid (gn_check G w hsh hG)
  have HN := Lib.hid (fun wx => gw_isNick N wx hN)
  rw [h1] at HR
  rw [h2] at HG
  rw [h3] at HN
  have hmk := run_mk 69
  clear h1 h2 h3 hsh
  go_enter Tryz.func10, Tryz.ntmps10
  go_wp2_with (first | (go_at_call 28; (with_reducible refine (HR.out _).mono ?_); rintro e w' ⟨rfl, rfl⟩) | (go_at_call 29; (with_reducible refine HG.out.mono ?_); rintro e w1 ⟨rfl, hb1⟩) | (go_at_call 30; (with_reducible refine (HN.out _).mono ?_); rintro e w' ⟨rfl, rfl⟩))
  go_ret2
  have hz := hb1.size
  have h := gwx_new (R := R) (G := G) (N := N) hb1
  exact ⟨w1.heap.size + 1 + 1, rfl, h.more (fun k h => ⟨h.1, by simp; omega⟩) (fun k h => h.1) (fun k h => h.2), ((hb1.alloc (by omega) _).alloc (by simp; omega) _).alloc (by simp; omega) _⟩
end Go.Proofs.YtghjgbkhhoaebaaGreatDoor
