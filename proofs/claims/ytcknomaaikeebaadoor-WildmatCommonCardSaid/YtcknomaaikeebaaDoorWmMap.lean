/- A map whose keys are two numbers, and whose values are strings. -/
import Derived.Test.YtcknomaaikeebaaDoorMem3
import Derived.Test.YtcknomaaikeebaaDoorWmC
import Derived.Laws.StructEq
import GoSem.Instr.MapUpdate
import Derived.MapKept
namespace Go.Proofs.YtcknomaaikeebaaDoor
set_option linter.unusedSimpArgs false
set_option linter.unusedVariables false
open Go.RowKit

/-- What is asked of the type of the keys. -/
structure Pos (P : Program) (K I : TypeId) : Prop where
  und : P.underlying K = some (.struct (P.fieldsOf K))
  flds : (P.fieldsOf K).toList.map (fun f => (f.name, f.type, f.offset)) = [("p", I, 0), ("q", I, 1)]
  int : P.underlying I = some (.int .i64)
  plain : ∀ w, (isAgg I).run P w = .ok false w
  stood : P.stoodInHeld K = false
abbrev posV (p : Nat × Nat) : Value := .agg #[.int .i64 (p.1 : Int), .int .i64 (p.2 : Int)]
theorem Pos.two {P : Program} {K I : TypeId} (T : Pos P K I) : ∃ f g : Field, (P.fieldsOf K).toList = [f, g] ∧ f.name = "p" ∧ f.type = I ∧ f.offset = 0 ∧ g.name = "q" ∧ g.type = I ∧ g.offset = 1 := by
  have h := T.flds
  generalize (P.fieldsOf K).toList = l at h
  rcases l with _ | ⟨f, _ | ⟨g, _ | ⟨x, l⟩⟩⟩
  · cases h
  · simp at h
  · simp at h
    exact ⟨f, g, rfl, h.1.1, h.1.2.1, h.1.2.2, h.2.1, h.2.2.1, h.2.2.2⟩
  · simp at h
theorem part_int {P : Program} {K I : TypeId} (T : Pos P K I) (w : World) (cs : Array Value) (i : Nat) (v : Value) (h : cs[i]? = some v) : (part I cs i).run P w = .ok v w := by
  simp [part, T.plain, h]
theorem pos_eq {P : Program} {K I : TypeId} (T : Pos P K I) (w : World) (p q : Nat × Nat) : (Op.equal K (posV p) (posV q)).run P w = .ok (decide (p = q)) w := by
  have h0 : ∀ i v (cs : Array Value), cs[i]? = some v → (part I cs i).run P w = .ok v w := fun i v cs h => part_int T w cs i v h
  obtain ⟨f, g, e, f1, f2, f3, g1, g2, g3⟩ := T.two
  rw [Op.equal, Op.maxDepth, run_equalIn_struct w 9999 K _ _ T.und T.stood, e]
  have hq : ∀ x y : Int, (Op.equalIn 9999 I (.int .i64 x) (.int .i64 y)).run P w = .ok (x == y) w := fun x y => run_equalIn_int w 9998 I .i64 .i64 x y T.int
  have a0 : ∀ x : Nat × Nat, (part I #[.int .i64 (x.1 : Int), .int .i64 (x.2 : Int)] 0).run P w = .ok (.int .i64 (x.1 : Int)) w := fun x => h0 _ _ _ rfl
  have a1 : ∀ x : Nat × Nat, (part I #[.int .i64 (x.1 : Int), .int .i64 (x.2 : Int)] 1).run P w = .ok (.int .i64 (x.2 : Int)) w := fun x => h0 _ _ _ rfl
  simp only [Op.eqFields, f1, f2, f3, g1, g2, g3]
  simp [a0, a1, hq]
  by_cases h1 : p.1 = q.1 <;> by_cases h2 : p.2 = q.2 <;> simp [h1, h2, Prod.ext_iff] <;> omega
theorem pos_ok {P : Program} {K I : TypeId} (T : Pos P K I) (w : World) (b : Bool) (p : Nat × Nat) : (Instr.checkKey b 10000 K (posV p)).run P w = .ok () w := by
  have h0 : ∀ i v (cs : Array Value), cs[i]? = some v → (part I cs i).run P w = .ok v w := fun i v cs h => part_int T w cs i v h
  obtain ⟨f, g, e, f1, f2, f3, g1, g2, g3⟩ := T.two
  have hs : ∀ x : Int, (Instr.checkKey b 9999 I (.int .i64 x)).run P w = .ok () w := fun x => by
    rw [Instr.checkKey]
    simp [run_underlying T.int]
  have a0 : (part I #[.int .i64 (p.1 : Int), .int .i64 (p.2 : Int)] 0).run P w = .ok (.int .i64 (p.1 : Int)) w := h0 _ _ _ rfl
  have a1 : (part I #[.int .i64 (p.1 : Int), .int .i64 (p.2 : Int)] 1).run P w = .ok (.int .i64 (p.2 : Int)) w := h0 _ _ _ rfl
  rw [Instr.checkKey]
  simp only [Sem.run_bind, run_underlying T.und, Result.andThen_ok]
  rw [← Array.forIn_toList, e]
  simp [f1, f2, f3, g1, g2, g3, a0, a1, hs]

abbrev PosMap := List ((Nat × Nat) × Bs)
def EntsP (es : List MapEntry) (m : PosMap) : Prop := es.map (fun e => (e.key, e.val)) = m.map fun q => (posV q.1, Value.string (ofL q.2))
theorem findP {P : Program} {K I : TypeId} (T : Pos P K I) (w : World) (p : Nat × Nat) : ∀ (es : List MapEntry) (m : PosMap) (i : Nat), EntsP es m →
    match m.lookup p with
    | none => (Instr.findAsking K (posV p) es i).run P w = .ok none w
    | some v => ∃ j, (Instr.findAsking K (posV p) es i).run P w = .ok (some (j, .string (ofL v))) w := by
  intro es
  induction es with
  | nil =>
    intro m i h
    cases m with
    | nil => simp [Instr.findAsking]
    | cons q m => simp [EntsP] at h
  | cons e es ih =>
    intro m i h
    cases m with
    | nil => simp [EntsP] at h
    | cons q m =>
      obtain ⟨k, v⟩ := q
      simp only [EntsP, List.map_cons, List.cons.injEq, Prod.mk.injEq] at h
      have hstep : (Instr.findAsking K (posV p) (e :: es) i).run P w = if p = k then .ok (some (i, .string (ofL v))) w else (Instr.findAsking K (posV p) es (i + 1)).run P w := by
        rw [Instr.findAsking]
        simp only [Sem.run_bind, h.1.1, h.1.2, pos_eq T w p k, Result.andThen_ok]
        by_cases hp : p = k <;> simp [hp]
      by_cases hp : p = k
      · subst hp
        simp only [List.lookup, beq_self_eq_true]
        exact ⟨i, by rw [hstep, if_pos rfl]⟩
      · have hb : (p == k) = false := beq_eq_false_iff_ne.2 hp
        simp only [List.lookup, hb]
        rw [if_neg hp] at hstep
        rw [hstep]
        exact ih m (i + 1) h.2
theorem findKeyP {P : Program} {K I : TypeId} (T : Pos P K I) (w : World) (p : Nat × Nat) (es : List MapEntry) : (Instr.findKey K (posV p) es).run P w = (Instr.findAsking K (posV p) es).run P w := by
  unfold Instr.findKey
  simp only [Sem.run_bind, run_underlying T.und, Result.andThen_ok]
  cases es with
  | nil => simp [Instr.findNow, Instr.findAsking]
  | cons e es => simp [Instr.findNow, Instr.sameNow]
/-- Block b is a map with these entries. -/
def MapP (w : World) (b : Nat) (m : PosMap) : Prop := ∃ es clock, w.heap[b]? = some (.map es clock) ∧ EntsP es.toList m
theorem MapP.look {P : Program} {M K E I : TypeId} (T : Pos P K I) (hM : P.underlying M = some (.map K E)) (hz : ∀ w, (zeroValue E).run P w = .ok (.string ⟨#[]⟩) w) {w : World} {b : Nat} {m : PosMap} (h : MapP w b m) (p : Nat × Nat) :
    (Instr.lookup M (.map (some b)) (posV p) true).run P w = .ok (.tuple #[.string (ofL ((m.lookup p).getD [])), .bool (m.lookup p).isSome]) w := by
  obtain ⟨es, clock, hb, he⟩ := h
  unfold Instr.lookup
  have hg : (getObj b).run P w = .ok (.map es clock) w := MapKept.run_getObj_map hb
  simp only [Sem.run_bind, run_underlying hM, Result.andThen_ok, hg, pos_ok T, findKeyP T, Sem.run_pure]
  have hf := findP T w p es.toList m 0 he
  cases hp : m.lookup p with
  | none => rw [hp] at hf; simp only at hf; simp [hf, hz]; rfl
  | some v => rw [hp] at hf; obtain ⟨j, hj⟩ := hf; simp [hj]
theorem MapP.put {P : Program} {M K E I : TypeId} (T : Pos P K I) (hM : P.underlying M = some (.map K E)) {w : World} {b : Nat} {m : PosMap} (h : MapP w b m) (p : Nat × Nat) (v : Bs) (hp : m.lookup p = none) :
    ∃ w', (Instr.mapUpdate M (.map (some b)) (posV p) (.string (ofL v))).run P w = .ok () w' ∧ MapP w' b (m ++ [(p, v)]) ∧ w.grownBy w' (some b) := by
  obtain ⟨es, clock, hb, he⟩ := h
  have hf := findP T w p es.toList m 0 he
  rw [hp] at hf
  simp only at hf
  refine ⟨{ w with heap := w.heap.setIfInBounds b (.map (es.push { key := posV p, val := .string (ofL v), born := clock }) (clock + 1)) }, ?_, ?_, ?_⟩
  · unfold Instr.mapUpdate
    have hg : (getObj b).run P w = .ok (.map es clock) w := MapKept.run_getObj_map hb
    simp only [Sem.run_bind, run_underlying hM, Result.andThen_ok, hg, pos_ok T, findKeyP T, Sem.run_pure, hf]
    rw [MapKept.run_setObj_map _ hb]
  · refine ⟨es.push { key := posV p, val := .string (ofL v), born := clock }, clock + 1, ?_, ?_⟩
    · have hlt := heap_lt hb
      simp [hlt]
    · unfold EntsP at he ⊢
      simp [he]
  · refine ⟨rfl, rfl, rfl, by simp, fun k hk hne => ?_⟩
    have : b ≠ k := fun e => hne (by rw [e])
    simp [this]
theorem MapP.below {N : Nat} {w w' : World} {b : Nat} {m : PosMap} (h : MapP w b m) (hb' : Below N w w') (hN : b < N) : MapP w' b m := by
  obtain ⟨es, clock, hb, he⟩ := h
  exact ⟨es, clock, (hb'.block b hN).trans hb, he⟩
theorem MapP.lt {w : World} {b : Nat} {m : PosMap} (h : MapP w b m) : b < w.heap.size := by
  obtain ⟨es, clock, hb, he⟩ := h
  exact heap_lt hb
theorem lookup_snoc (m : PosMap) (p q : Nat × Nat) (v : Bs) (h : m.lookup p = none) : (m ++ [(p, v)]).lookup q = if q = p then some v else m.lookup q := by
  induction m with
  | nil =>
    by_cases hq : q = p
    · simp [hq, List.lookup]
    · have : (q == p) = false := beq_eq_false_iff_ne.2 hq
      simp [List.lookup, this, hq]
  | cons x m ih =>
    obtain ⟨k, u⟩ := x
    simp only [List.cons_append, List.lookup] at h ⊢
    rcases e1 : p == k with _ | _
    · rw [e1] at h
      rcases e2 : q == k with _ | _
      · exact ih h
      · have : q ≠ p := by rintro rfl; rw [e1] at e2; cases e2
        simp [this]
    · rw [e1] at h; cases h
theorem lexB_less : ∀ a b : Bs, Op.bytesLess a b = lexB a b
  | [], [] => rfl
  | [], _ :: _ => rfl
  | _ :: _, [] => rfl
  | a :: x, b :: y => by rw [Op.bytesLess, lexB, lexB_less x y]; rfl
end Go.Proofs.YtcknomaaikeebaaDoor
