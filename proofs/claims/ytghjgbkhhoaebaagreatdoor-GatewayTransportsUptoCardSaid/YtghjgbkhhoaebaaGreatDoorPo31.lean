/- Lemmas and walks, part 31. -/
import Derived.Test.YtghjgbkhhoaebaaGreatDoorPo9
import Derived.Laws.StructEq
import GoSem.Instr.MapUpdate
import GoSem.Instr.MakeMap
import Derived.MapKept
namespace Go.Proofs.YtghjgbkhhoaebaaGreatDoor
set_option linter.unusedSimpArgs false
set_option linter.unusedVariables false
open Go.RowKit

/-- What is asked of the type of arrays of 32 bytes. -/
structure Ar32 (P : Program) (K U : TypeId) : Prop where
  arr : P.underlying K = some (.array 32 U)
  int : P.underlying U = some (.int .u8)
  size : ∀ w, (sizeOf U).run P w = .ok 1 w
  plain : ∀ w, (isAgg U).run P w = .ok false w
abbrev idC (l : List Int) : List Value := l.map (Value.int .u8)
def idV (l : List Int) : Value := .agg (idC l).toArray
theorem idC_at (l : List Int) (i : Nat) (h : i < l.length) : (idC l).toArray[i]? = some (.int .u8 l[i]) := by simp [idC, h]
theorem part_u8 {P : Program} {K U : TypeId} (T : Ar32 P K U) (w : World) (cs : Array Value) (i : Nat) (v : Value) (h : cs[i]? = some v) : (part U cs i).run P w = .ok v w := by
  simp [part, T.plain, h]
theorem eq_u8 {P : Program} {K U : TypeId} (T : Ar32 P K U) (w : World) (n : Nat) (a b : Int) : (Op.equalIn (n + 1) U (.int .u8 a) (.int .u8 b)).run P w = .ok (a == b) w := by
  rw [Op.equalIn]
  simp [run_underlying T.int]
theorem loop_all {P : Program} (w : World) {n : Nat} (f : Nat → Option Bool × Unit → Sem (ForInStep (Option Bool × Unit))) (p : Nat → Bool)
    (h : ∀ i, i < n → (f i (none, ())).run P w = .ok (if p i then .yield (none, ()) else .done (some false, ())) w) :
    ∀ k s, s + k ≤ n → (forIn (List.range' s k) (none, ()) f).run P w = .ok (if (List.range' s k).all p then (none, ()) else (some false, ())) w := by
  intro k
  induction k with
  | zero => intro s _; simp
  | succ k ih =>
    intro s hs
    rw [List.range'_succ, List.forIn_cons, Sem.run_bind, h s (by omega), List.all_cons]
    cases hp : p s with
    | true => rw [Bool.true_and]; simpa using ih (s + 1) (by omega)
    | false => simp
theorem loop_unit {P : Program} (w : World) {n : Nat} (f : Nat → Unit → Sem (ForInStep Unit))
    (h : ∀ i, i < n → (f i ()).run P w = .ok (.yield ()) w) :
    ∀ k s, s + k ≤ n → (forIn (List.range' s k) () f).run P w = .ok () w := by
  intro k
  induction k with
  | zero => intro s _; simp
  | succ k ih =>
    intro s hs
    rw [List.range'_succ, List.forIn_cons, Sem.run_bind, h s (by omega)]
    simpa using ih (s + 1) (by omega)
theorem id_eq {P : Program} {K U : TypeId} (T : Ar32 P K U) (w : World) (n : Nat) (l m : List Int) (hl : l.length = 32) (hm : m.length = 32) :
    (Op.equalIn (n + 2) K (idV l) (idV m)).run P w = .ok (decide (l = m)) w := by
  have h0 : ∀ i v (cs : Array Value), cs[i]? = some v → (part U cs i).run P w = .ok v w := fun i v cs h => part_u8 T w cs i v h
  rw [Op.equalIn]
  simp only [Sem.run_bind, run_underlying T.arr, Result.andThen_ok, T.size, idV]
  simp only [Std.Legacy.Range.forIn_eq_forIn_range', Std.Legacy.Range.size, Nat.mul_one, Nat.sub_zero, Nat.add_one_sub_one, Nat.div_one]
  rw [loop_all (n := 32) w _ (fun i => decide (l[i]? = m[i]?)) ?_ 32 0 (by omega)]
  · have e : (List.range' 0 32).all (fun i => decide (l[i]? = m[i]?)) = decide (l = m) := by
      rw [Bool.eq_iff_iff, List.all_eq_true, decide_eq_true_eq]
      constructor
      · intro h
        refine List.ext_getElem? fun i => ?_
        by_cases hi : i < 32
        · exact of_decide_eq_true (h i (List.mem_range'_1.2 ⟨by omega, by omega⟩))
        · rw [List.getElem?_eq_none (by omega), List.getElem?_eq_none (by omega)]
      · rintro rfl i _
        simp
    rw [e]
    by_cases hlm : l = m <;> simp [hlm]
  · intro i hi
    simp only [Sem.run_bind, h0 i _ _ (idC_at l i (by omega)), h0 i _ _ (idC_at m i (by omega)), Result.andThen_ok, eq_u8 T]
    have e : (l[i] == m[i]) = decide (l[i]? = m[i]?) := by
      rw [List.getElem?_eq_getElem (by omega), List.getElem?_eq_getElem (by omega), Bool.eq_iff_iff]; simp
    rw [e]
    cases decide (l[i]? = m[i]?) <;> simp
theorem id_equal {P : Program} {K U : TypeId} (T : Ar32 P K U) (w : World) (l m : List Int) (hl : l.length = 32) (hm : m.length = 32) : (Op.equal K (idV l) (idV m)).run P w = .ok (decide (l = m)) w :=
  id_eq T w 9998 l m hl hm
theorem id_key {P : Program} {K U : TypeId} (T : Ar32 P K U) (w : World) (b : Bool) (l : List Int) (hl : l.length = 32) : (Instr.checkKey b 10000 K (idV l)).run P w = .ok () w := by
  have hs : ∀ x : Int, (Instr.checkKey b 9999 U (.int .u8 x)).run P w = .ok () w := fun x => by
    rw [Instr.checkKey]
    simp [run_underlying T.int]
  rw [Instr.checkKey]
  simp only [Sem.run_bind, run_underlying T.arr, Result.andThen_ok, T.size, idV]
  simp only [Std.Legacy.Range.forIn_eq_forIn_range', Std.Legacy.Range.size, Nat.mul_one, Nat.sub_zero, Nat.add_one_sub_one, Nat.div_one]
  rw [loop_unit (n := 32) w _ ?_ 32 0 (by omega)]
  · simp
  intro i hi
  simp only [Sem.run_bind, T.size, Result.andThen_ok, Nat.mul_one, part_u8 T w _ i _ (idC_at l i (by omega)), hs]
  simp

/-- The entries of a map whose keys are the identities ps, all true. -/
def EntI (es : List MapEntry) (ps : List (List Int)) : Prop := es.map (fun e => (e.key, e.val)) = ps.map fun q => (idV q, Value.bool true)
abbrev All32 (ps : List (List Int)) : Prop := ∀ p ∈ ps, p.length = 32
theorem idfind_miss {P : Program} {K U : TypeId} (T : Ar32 P K U) (w : World) (p : List Int) (hp32 : p.length = 32) : ∀ (es : List MapEntry) (ps : List (List Int)) (i : Nat), All32 ps → EntI es ps → p ∉ ps → (Instr.findAsking K (idV p) es i).run P w = .ok none w := by
  intro es
  induction es with
  | nil => intro ps i _ h hp; simp [Instr.findAsking]
  | cons e es ih =>
    intro ps i ha h hp
    cases ps with
    | nil => simp [EntI] at h
    | cons q ps =>
      simp only [EntI, List.map_cons, List.cons.injEq, Prod.mk.injEq] at h
      have hne : p ≠ q := fun e => hp (by simp [e])
      rw [Instr.findAsking]
      simp only [Sem.run_bind, h.1.1, id_equal T w p q hp32 (ha q (by simp)), Result.andThen_ok]
      simp only [hne, decide_false, Bool.false_eq_true, if_false]
      exact ih ps (i + 1) (fun x hx => ha x (by simp [hx])) h.2 (fun h => hp (by simp [h]))
theorem idfind_hit {P : Program} {K U : TypeId} (T : Ar32 P K U) (w : World) (p : List Int) (hp32 : p.length = 32) : ∀ (es : List MapEntry) (ps : List (List Int)) (i : Nat), All32 ps → EntI es ps → p ∈ ps → ∃ j, (Instr.findAsking K (idV p) es i).run P w = .ok (some (j, .bool true)) w := by
  intro es
  induction es with
  | nil =>
    intro ps i _ h hp
    cases ps with
    | nil => cases hp
    | cons q ps => simp [EntI] at h
  | cons e es ih =>
    intro ps i ha h hp
    cases ps with
    | nil => cases hp
    | cons q ps =>
      simp only [EntI, List.map_cons, List.cons.injEq, Prod.mk.injEq] at h
      rw [Instr.findAsking]
      simp only [Sem.run_bind, h.1.1, h.1.2, id_equal T w p q hp32 (ha q (by simp)), Result.andThen_ok]
      by_cases hpq : p = q
      · exact ⟨i, by simp [hpq]⟩
      · simp only [hpq, decide_false, Bool.false_eq_true, if_false]
        rcases List.mem_cons.1 hp with h1 | h1
        · exact absurd h1 hpq
        · exact ih ps (i + 1) (fun x hx => ha x (by simp [hx])) h.2 h1
theorem idfindKey_run {P : Program} {K U : TypeId} (T : Ar32 P K U) (w : World) (p : List Int) (es : List MapEntry) : (Instr.findKey K (idV p) es).run P w = (Instr.findAsking K (idV p) es).run P w := by
  unfold Instr.findKey
  simp only [Sem.run_bind, run_underlying T.arr, Result.andThen_ok]
  cases es with
  | nil => simp [Instr.findNow, Instr.findAsking]
  | cons e es => simp [Instr.findNow, Instr.sameNow, idV]

/-- Block b is a map whose keys are the identities ps. -/
def IdMap (w : World) (b : Nat) (ps : List (List Int)) : Prop := ∃ es clock, w.heap[b]? = some (.map es clock) ∧ EntI es.toList ps ∧ All32 ps
theorem IdMap.lt {w : World} {b : Nat} {ps : List (List Int)} (h : IdMap w b ps) : b < w.heap.size := by
  obtain ⟨es, clock, hb, he⟩ := h; exact heap_lt hb
theorem IdMap.below {w w' : World} {b : Nat} {ps : List (List Int)} (h : IdMap w b ps) (hb' : Below w.heap.size w w') : IdMap w' b ps := by
  obtain ⟨es, clock, hb, he⟩ := h
  exact ⟨es, clock, (hb'.block b (heap_lt hb)).trans hb, he⟩
theorem IdMap.kept {w w' : World} {b : Nat} {ps : List (List Int)} (h : IdMap w b ps) {row : Option Nat} (hg : w.grownBy w' row) (hne : some b ≠ row) : IdMap w' b ps := by
  obtain ⟨es, clock, hb, he⟩ := h
  exact ⟨es, clock, (hg.block b (heap_lt hb) hne).trans hb, he⟩
theorem IdMap.look {P : Program} {M K E U : TypeId} (T : Ar32 P K U) (hM : P.underlying M = some (.map K E)) (hz : ∀ w, (zeroValue E).run P w = .ok (.bool false) w) {w : World} {b : Nat} {ps : List (List Int)} (h : IdMap w b ps) (p : List Int) (hp32 : p.length = 32) :
    (Instr.lookup M (.map (some b)) (idV p) false).run P w = .ok (.bool (decide (p ∈ ps))) w := by
  obtain ⟨es, clock, hb, he, ha⟩ := h
  unfold Instr.lookup
  have hg : (getObj b).run P w = .ok (.map es clock) w := MapKept.run_getObj_map hb
  simp only [Sem.run_bind, run_underlying hM, Result.andThen_ok, hg, id_key T w _ p hp32, idfindKey_run T, Sem.run_pure]
  by_cases hp : p ∈ ps
  · obtain ⟨j, hj⟩ := idfind_hit T w p hp32 es.toList ps 0 ha he hp
    simp [hj, hp]
  · simp [idfind_miss T w p hp32 es.toList ps 0 ha he hp, hp, hz]
/-- What a new key leaves. -/
theorem IdMap.put {P : Program} {M K E U : TypeId} (T : Ar32 P K U) (hM : P.underlying M = some (.map K E)) {w : World} {b : Nat} {ps : List (List Int)} (h : IdMap w b ps) (p : List Int) (hp32 : p.length = 32) (hp : p ∉ ps) :
    ∃ w', (Instr.mapUpdate M (.map (some b)) (idV p) (.bool true)).run P w = .ok () w' ∧ IdMap w' b (ps ++ [p]) ∧ w.grownBy w' (some b) ∧ w'.heap.size = w.heap.size := by
  obtain ⟨es, clock, hb, he, ha⟩ := h
  refine ⟨{ w with heap := w.heap.setIfInBounds b (.map (es.push { key := idV p, val := .bool true, born := clock }) (clock + 1)) }, ?_, ?_, ?_, ?_⟩
  · unfold Instr.mapUpdate
    have hg : (getObj b).run P w = .ok (.map es clock) w := MapKept.run_getObj_map hb
    simp only [Sem.run_bind, run_underlying hM, Result.andThen_ok, hg, id_key T w _ p hp32, idfindKey_run T, Sem.run_pure, idfind_miss T w p hp32 es.toList ps 0 ha he hp]
    rw [MapKept.run_setObj_map _ hb]
  · refine ⟨es.push { key := idV p, val := .bool true, born := clock }, clock + 1, ?_, ?_, ?_⟩
    · have hlt := heap_lt hb
      simp [hlt]
    · unfold EntI at he ⊢
      simp [he]
    · intro x hx
      rcases List.mem_append.1 hx with hx | hx
      · exact ha x hx
      · rw [List.mem_singleton] at hx; rw [hx]; exact hp32
  · refine ⟨rfl, rfl, rfl, by simp, fun k hk hne => ?_⟩
    have : b ≠ k := fun e => hne (by rw [e])
    simp [this]
  · simp
end Go.Proofs.YtghjgbkhhoaebaaGreatDoor
