/- A map of pairs of strings, and arrays of two strings. No program here. -/
import Derived.Test.YtgfgjkafkdfjpaaDoorMem3
import Derived.Laws.StructEq
import GoSem.Instr.MapUpdate
import Derived.MapKept
namespace Go.Proofs.YtgfgjkafkdfjpaaDoor
set_option linter.unusedSimpArgs false
set_option linter.unusedVariables false
open Go.RowKit

/-- What is asked of the type of arrays of two strings. -/
structure Two (P : Program) (K S : TypeId) : Prop where
  arr : P.underlying K = some (.array 2 S)
  str : P.underlying S = some .string
  size : ∀ w, (sizeOf S).run P w = .ok 1 w
  plain : ∀ w, (isAgg S).run P w = .ok false w

theorem part_str {P : Program} {K S : TypeId} (T : Two P K S) (w : World) (cs : Array Value) (i : Nat) (v : Value) (h : cs[i]? = some v) : (part S cs i).run P w = .ok v w := by
  simp [part, T.plain, h]

theorem two_eq {P : Program} {K S : TypeId} (T : Two P K S) (w : World) (n : Nat) (a b c d : ByteArray) :
    (Op.equalIn (n + 2) K (.agg #[.string a, .string b]) (.agg #[.string c, .string d])).run P w = .ok ((a.toList == c.toList) && (b.toList == d.toList)) w := by
  have h0 : ∀ i v (cs : Array Value), cs[i]? = some v → (part S cs i).run P w = .ok v w := fun i v cs h => part_str T w cs i v h
  have hq : ∀ x y : ByteArray, (Op.equalIn (n + 1) S (.string x) (.string y)).run P w = .ok (x.toList == y.toList) w := fun x y => run_equalIn_string w n S x y T.str
  rw [Op.equalIn]
  simp only [Sem.run_bind, run_underlying T.arr, Result.andThen_ok, T.size]
  simp [Std.Legacy.Range.forIn_eq_forIn_range', Std.Legacy.Range.size, List.range', h0, hq]
  by_cases h1 : a.toList = c.toList <;> by_cases h2 : b.toList = d.toList <;> simp [h1, h2]

abbrev Pr := List UInt8 × List UInt8
def keyV (p : Pr) : Value := .agg #[.string (ofL p.1), .string (ofL p.2)]
theorem key_eq {P : Program} {K S : TypeId} (T : Two P K S) (w : World) (p q : Pr) : (Op.equal K (keyV p) (keyV q)).run P w = .ok (decide (p = q)) w := by
  have h := two_eq T w 9998 (ofL p.1) (ofL p.2) (ofL q.1) (ofL q.2)
  have e : ((ofL p.1).toList == (ofL q.1).toList && (ofL p.2).toList == (ofL q.2).toList) = decide (p = q) := by
    rw [beq_toList, beq_toList, toL_ofL, toL_ofL, toL_ofL, toL_ofL, Bool.eq_iff_iff]
    simp [Prod.ext_iff]
  rw [e] at h
  exact h
theorem key_ok {P : Program} {K S : TypeId} (T : Two P K S) (w : World) (b : Bool) (p : Pr) : (Instr.checkKey b 10000 K (keyV p)).run P w = .ok () w := by
  have h0 : ∀ i v (cs : Array Value), cs[i]? = some v → (part S cs i).run P w = .ok v w := fun i v cs h => part_str T w cs i v h
  have hs : ∀ x : ByteArray, (Instr.checkKey b 9999 S (.string x)).run P w = .ok () w := fun x => by
    rw [Instr.checkKey]
    simp [run_underlying T.str]
  rw [Instr.checkKey]
  simp only [Sem.run_bind, run_underlying T.arr, Result.andThen_ok, keyV]
  simp [Std.Legacy.Range.forIn_eq_forIn_range', Std.Legacy.Range.size, List.range', h0, hs, T.size]

/-- The entries of a map whose keys are the pairs ps, all true. -/
def Ents (es : List MapEntry) (ps : List Pr) : Prop := es.map (fun e => (e.key, e.val)) = ps.map fun q => (keyV q, Value.bool true)
theorem find_miss {P : Program} {K S : TypeId} (T : Two P K S) (w : World) (p : Pr) : ∀ (es : List MapEntry) (ps : List Pr) (i : Nat), Ents es ps → p ∉ ps → (Instr.findAsking K (keyV p) es i).run P w = .ok none w := by
  intro es
  induction es with
  | nil => intro ps i h hp; simp [Instr.findAsking]
  | cons e es ih =>
    intro ps i h hp
    cases ps with
    | nil => simp [Ents] at h
    | cons q ps =>
      simp only [Ents, List.map_cons, List.cons.injEq, Prod.mk.injEq] at h
      have hne : p ≠ q := fun e => hp (by simp [e])
      rw [Instr.findAsking]
      simp only [Sem.run_bind, h.1.1, key_eq T w p q, Result.andThen_ok]
      simp only [hne, decide_false, Bool.false_eq_true, if_false]
      exact ih ps (i + 1) h.2 (fun h => hp (by simp [h]))
theorem find_hit {P : Program} {K S : TypeId} (T : Two P K S) (w : World) (p : Pr) : ∀ (es : List MapEntry) (ps : List Pr) (i : Nat), Ents es ps → p ∈ ps → ∃ j, (Instr.findAsking K (keyV p) es i).run P w = .ok (some (j, .bool true)) w := by
  intro es
  induction es with
  | nil =>
    intro ps i h hp
    cases ps with
    | nil => cases hp
    | cons q ps => simp [Ents] at h
  | cons e es ih =>
    intro ps i h hp
    cases ps with
    | nil => cases hp
    | cons q ps =>
      simp only [Ents, List.map_cons, List.cons.injEq, Prod.mk.injEq] at h
      rw [Instr.findAsking]
      simp only [Sem.run_bind, h.1.1, h.1.2, key_eq T w p q, Result.andThen_ok]
      by_cases hpq : p = q
      · exact ⟨i, by simp [hpq]⟩
      · simp only [hpq, decide_false, Bool.false_eq_true, if_false]
        rcases List.mem_cons.1 hp with h1 | h1
        · exact absurd h1 hpq
        · exact ih ps (i + 1) h.2 h1
theorem findKey_run {P : Program} {K S : TypeId} (T : Two P K S) (w : World) (p : Pr) (es : List MapEntry) : (Instr.findKey K (keyV p) es).run P w = (Instr.findAsking K (keyV p) es).run P w := by
  unfold Instr.findKey
  simp only [Sem.run_bind, run_underlying T.arr, Result.andThen_ok]
  cases es with
  | nil => simp [Instr.findNow, Instr.findAsking]
  | cons e es => simp [Instr.findNow, Instr.sameNow, keyV]

/-- Block b is a map whose keys are the pairs ps. -/
def MapIs (w : World) (b : Nat) (ps : List Pr) : Prop := ∃ es clock, w.heap[b]? = some (.map es clock) ∧ Ents es.toList ps

theorem MapIs.look {P : Program} {M K E S : TypeId} (T : Two P K S) (hM : P.underlying M = some (.map K E)) (hz : ∀ w, (zeroValue E).run P w = .ok (.bool false) w) {w : World} {b : Nat} {ps : List Pr} (h : MapIs w b ps) (p : Pr) :
    (Instr.lookup M (.map (some b)) (keyV p) false).run P w = .ok (.bool (decide (p ∈ ps))) w := by
  obtain ⟨es, clock, hb, he⟩ := h
  unfold Instr.lookup
  have hg : (getObj b).run P w = .ok (.map es clock) w := MapKept.run_getObj_map hb
  simp only [Sem.run_bind, run_underlying hM, Result.andThen_ok, hg, key_ok T, findKey_run T, Sem.run_pure]
  by_cases hp : p ∈ ps
  · obtain ⟨j, hj⟩ := find_hit T w p es.toList ps 0 he hp
    simp [hj, hp]
  · simp [find_miss T w p es.toList ps 0 he hp, hp, hz]

/-- What a new key leaves. -/
theorem MapIs.put {P : Program} {M K E S : TypeId} (T : Two P K S) (hM : P.underlying M = some (.map K E)) {w : World} {b : Nat} {ps : List Pr} (h : MapIs w b ps) (p : Pr) (hp : p ∉ ps) :
    ∃ w', (Instr.mapUpdate M (.map (some b)) (keyV p) (.bool true)).run P w = .ok () w' ∧ MapIs w' b (ps ++ [p]) ∧ w.grownBy w' (some b) := by
  obtain ⟨es, clock, hb, he⟩ := h
  refine ⟨{ w with heap := w.heap.setIfInBounds b (.map (es.push { key := keyV p, val := .bool true, born := clock }) (clock + 1)) }, ?_, ?_, ?_⟩
  · unfold Instr.mapUpdate
    have hg : (getObj b).run P w = .ok (.map es clock) w := MapKept.run_getObj_map hb
    simp only [Sem.run_bind, run_underlying hM, Result.andThen_ok, hg, key_ok T, findKey_run T, Sem.run_pure, find_miss T w p es.toList ps 0 he hp]
    rw [MapKept.run_setObj_map _ hb]
  · refine ⟨es.push { key := keyV p, val := .bool true, born := clock }, clock + 1, ?_, ?_⟩
    · have hlt := heap_lt hb
      simp [hlt]
    · unfold Ents at he ⊢
      simp [he]
  · refine ⟨rfl, rfl, rfl, by simp, fun k hk hne => ?_⟩
    have : b ≠ k := fun e => hne (by rw [e])
    simp [this]

theorem keyV_of (x y : ByteArray) : keyV (toL x, toL y) = .agg #[.string x, .string y] := by simp [keyV, ofL_toL]
theorem MapIs.kept {w w' : World} {b : Nat} {ps : List Pr} (h : MapIs w b ps) {row : Option Nat} (hg : w.grownBy w' row) (hne : some b ≠ row) : MapIs w' b ps := by
  obtain ⟨es, clock, hb, he⟩ := h
  exact ⟨es, clock, (hg.block b (heap_lt hb) hne).trans hb, he⟩
theorem MapIs.below {w w' : World} {b : Nat} {ps : List Pr} (h : MapIs w b ps) (hb' : Below w.heap.size w w') : MapIs w' b ps := by
  obtain ⟨es, clock, hb, he⟩ := h
  exact ⟨es, clock, (hb'.block b (heap_lt hb)).trans hb, he⟩
theorem MapIs.lt {w : World} {b : Nat} {ps : List Pr} (h : MapIs w b ps) : b < w.heap.size := by
  obtain ⟨es, clock, hb, he⟩ := h
  exact heap_lt hb

abbrev prsV (l : List Pr) : List Value := l.flatMap fun p => [.string (ofL p.1), .string (ofL p.2)]
theorem prsV_length (l : List Pr) : (prsV l).length = l.length * 2 := by
  induction l with
  | nil => rfl
  | cons x r ih => simp [prsV] at ih ⊢; omega
theorem prsV_at (l : List Pr) (k : Nat) (h : k < l.length) : (prsV l)[k * 2]? = some (.string (ofL l[k].1)) ∧ (prsV l)[k * 2 + 1]? = some (.string (ofL l[k].2)) := by
  induction l generalizing k with
  | nil => simp at h
  | cons x r ih =>
    cases k with
    | zero => simp [prsV]
    | succ k =>
      have := ih k (by simpa using h)
      simp only [prsV, List.flatMap_cons] at this ⊢
      rw [show (k + 1) * 2 = k * 2 + 2 from by omega, List.getElem?_append_right (by simp), List.getElem?_append_right (by simp)]
      simpa using this
theorem prsV_snoc (l : List Pr) (x y : ByteArray) : prsV l ++ [.string x, .string y] = prsV (l ++ [(toL x, toL y)]) := by simp [prsV, ofL_toL]
theorem Row.pair {w : World} {A : Option Addr} {l : List Pr} (h : Row w A (prsV l)) {k : Nat} (hk : k < l.length) {x y : ByteArray} (hx : ofL l[k].1 = x) (hy : ofL l[k].2 = y) :
    ∃ b off, A = some ⟨b, off, none⟩ ∧ w.cell? ⟨b, off + k * 2, none⟩ = some (.string x) ∧ w.cell? ⟨b, off + k * 2 + 1, none⟩ = some (.string y) := by
  obtain ⟨b, off, e, _, hc⟩ := h.at (k := 0) (by rw [prsV_length]; omega)
  obtain ⟨h1, h2⟩ := prsV_at l k hk
  subst hx hy
  exact ⟨b, off, e, hc _ _ h1, by rw [Nat.add_assoc]; exact hc _ _ h2⟩

end Go.Proofs.YtgfgjkafkdfjpaaDoor
