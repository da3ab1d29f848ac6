/- Lemmas and walks, part 24. -/
import Derived.Test.YtannhfnpigiggaaGreatDoorPs8
import Derived.Test.YtannhfnpigiggaaGreatDoorPs23
import GoSem.Instr.MapUpdate
import GoSem.Instr.MakeMap
import Derived.MapKept
namespace Go.Proofs.YtannhfnpigiggaaGreatDoor
set_option linter.unusedSimpArgs false
set_option linter.unusedVariables false
open Go.RowKit

abbrev kS (p : List UInt8) : Value := .string (ofL p)
/-- The entries of a map whose keys are the texts ps, all true. -/
def EntS (es : List MapEntry) (ps : List (List UInt8)) : Prop := es.map (fun e => (e.key, e.val)) = ps.map fun q => (kS q, Value.bool true)
theorem beq_ba (a b : ByteArray) : (a == b) = decide (a = b) := by
  have h : (a == b) = (a.data == b.data) := rfl
  rw [h]
  by_cases e : a = b
  · subst e; simp
  · have : a.data ≠ b.data := fun h => e (by cases a; cases b; simp at h; rw [h])
    simp [e, this]
theorem same_str (p q : List UInt8) : Instr.sameNow .string (kS p) (kS q) = some (decide (p = q)) := by
  show some (ofL p == ofL q) = _
  rw [beq_ba]
  by_cases h : p = q
  · subst h; simp
  · have : ofL p ≠ ofL q := fun e => h (by have := congrArg toL e; rwa [toL_ofL, toL_ofL] at this)
    simp [h, this]
theorem now_miss (p : List UInt8) : ∀ (es : List MapEntry) (ps : List (List UInt8)) (i : Nat), EntS es ps → p ∉ ps → Instr.findNow .string (kS p) es i = some none := by
  intro es
  induction es with
  | nil => intro ps i _ _; rfl
  | cons e es ih =>
    intro ps i h hp
    cases ps with
    | nil => simp [EntS] at h
    | cons q ps =>
      simp only [EntS, List.map_cons, List.cons.injEq, Prod.mk.injEq] at h
      have hne : p ≠ q := fun e => hp (by simp [e])
      rw [Instr.findNow, h.1.1, same_str, decide_eq_false hne]
      exact ih ps (i + 1) h.2 (fun h => hp (by simp [h]))
theorem now_hit (p : List UInt8) : ∀ (es : List MapEntry) (ps : List (List UInt8)) (i : Nat), EntS es ps → p ∈ ps → ∃ j, Instr.findNow .string (kS p) es i = some (some (i + j, .bool true)) ∧ ∃ e, es[j]? = some e ∧ e.key = kS p ∧ e.val = .bool true := by
  intro es
  induction es with
  | nil =>
    intro ps i h hp
    cases ps with
    | nil => cases hp
    | cons q ps => simp [EntS] at h
  | cons e es ih =>
    intro ps i h hp
    cases ps with
    | nil => cases hp
    | cons q ps =>
      simp only [EntS, List.map_cons, List.cons.injEq, Prod.mk.injEq] at h
      by_cases hpq : p = q
      · refine ⟨0, ?_, e, rfl, by rw [h.1.1, hpq], h.1.2⟩
        rw [Instr.findNow, h.1.1, same_str, decide_eq_true hpq, h.1.2]; rfl
      · rcases List.mem_cons.1 hp with h1 | h1
        · exact absurd h1 hpq
        · obtain ⟨j, hj, e', he', hk, hv⟩ := ih ps (i + 1) h.2 h1
          refine ⟨j + 1, ?_, e', by simpa using he', hk, hv⟩
          rw [Instr.findNow, h.1.1, same_str, decide_eq_false hpq]
          show Instr.findNow .string (kS p) es (i + 1) = _
          rw [hj, show i + 1 + j = i + (j + 1) from by omega]
/-- Block b is a map whose keys are the texts ps. -/
def StrMap (w : World) (b : Nat) (ps : List (List UInt8)) : Prop := ∃ es clock, w.heap[b]? = some (.map es clock) ∧ EntS es.toList ps
theorem StrMap.lt {w : World} {b : Nat} {ps : List (List UInt8)} (h : StrMap w b ps) : b < w.heap.size := by
  obtain ⟨es, clock, hb, he⟩ := h; exact heap_lt hb
theorem StrMap.below {w w' : World} {b : Nat} {ps : List (List UInt8)} (h : StrMap w b ps) (hb' : Below w.heap.size w w') : StrMap w' b ps := by
  obtain ⟨es, clock, hb, he⟩ := h
  exact ⟨es, clock, (hb'.block b (heap_lt hb)).trans hb, he⟩
theorem key_str {P : Program} {K : TypeId} (hK : P.underlying K = some .string) (w : World) (b : Bool) (p : List UInt8) : (Instr.checkKey b 10000 K (kS p)).run P w = .ok () w := by
  rw [Instr.checkKey]
  simp [run_underlying hK]
theorem StrMap.look {P : Program} {M K E : TypeId} (hK : P.underlying K = some .string) (hM : P.underlying M = some (.map K E)) (hz : ∀ w, (zeroValue E).run P w = .ok (.bool false) w) {w : World} {b : Nat} {ps : List (List UInt8)} (h : StrMap w b ps) (s : ByteArray) :
    (Instr.lookup M (.map (some b)) (.string s) false).run P w = .ok (.bool (decide (toL s ∈ ps))) w := by
  obtain ⟨es, clock, hb, he⟩ := h
  have hs : Value.string s = kS (toL s) := by show _ = Value.string (ofL (toL s)); rw [ofL_toL]
  rw [hs]
  generalize toL s = p
  unfold Instr.lookup
  have hg : (getObj b).run P w = .ok (.map es clock) w := MapKept.run_getObj_map hb
  have hk := key_str hK w es.isEmpty p
  by_cases hp : p ∈ ps
  · obtain ⟨j, hj, _⟩ := now_hit p es.toList ps 0 he hp
    simp [Sem.run_bind, run_underlying hM, Result.andThen_ok, hg, hk, Instr.findKey, run_underlying hK, hj, Sem.run_pure, hp]
  · have hj := now_miss p es.toList ps 0 he hp
    simp [Sem.run_bind, run_underlying hM, Result.andThen_ok, hg, hk, Instr.findKey, run_underlying hK, hj, Sem.run_pure, hp, hz]
/-- What an entry leaves, new or old. -/
theorem StrMap.put {P : Program} {M K E : TypeId} (hK : P.underlying K = some .string) (hM : P.underlying M = some (.map K E)) {w : World} {b : Nat} {ps : List (List UInt8)} (h : StrMap w b ps) (s : ByteArray) :
    ∃ w' qs, (Instr.mapUpdate M (.map (some b)) (.string s) (.bool true)).run P w = .ok () w' ∧ StrMap w' b qs ∧ (∀ x, x ∈ qs ↔ x ∈ ps ∨ x = toL s) ∧ w.grownBy w' (some b) := by
  obtain ⟨es, clock, hb, he⟩ := h
  have hs : Value.string s = kS (toL s) := by show _ = Value.string (ofL (toL s)); rw [ofL_toL]
  rw [hs]
  generalize toL s = p
  have hg : (getObj b).run P w = .ok (.map es clock) w := MapKept.run_getObj_map hb
  have hk := key_str hK w false p
  have hlt := heap_lt hb
  have grow : ∀ o : Obj, w.grownBy { w with heap := w.heap.setIfInBounds b o } (some b) := fun o => by
    refine ⟨rfl, rfl, rfl, by simp, fun k hk hne => ?_⟩
    have : b ≠ k := fun e => hne (by rw [e])
    simp [this]
  by_cases hp : p ∈ ps
  · obtain ⟨j, hj, e, hje, hek, hev⟩ := now_hit p es.toList ps 0 he hp
    rw [Nat.zero_add] at hj
    have hje' : es[j]? = some e := by simpa using hje
    refine ⟨_, ps, ?_, ⟨es.modify j fun e => { e with key := kS p, val := .bool true }, clock, ?_, ?_⟩, fun x => ⟨.inl, fun h => h.elim id fun h => h ▸ hp⟩, grow (.map (es.modify j fun e => { e with key := kS p, val := .bool true }) clock)⟩
    · unfold Instr.mapUpdate
      simp [Sem.run_bind, run_underlying hM, Result.andThen_ok, hg, hk, Instr.findKey, run_underlying hK, hj, Sem.run_pure, hje', hek, Instr.keyThatStays, Instr.sameBits, beq_ba]
      rw [MapKept.run_setObj_map _ hb]
    · simp [hlt]
    · unfold EntS at he ⊢
      rw [← he]
      refine List.ext_getElem? fun k => ?_
      simp only [List.getElem?_map, Array.getElem?_toList, Array.getElem?_modify]
      by_cases hkj : j = k
      · subst hkj; simp [hje', hek, hev]
      · simp [hkj]
  · have hj := now_miss p es.toList ps 0 he hp
    refine ⟨_, ps ++ [p], ?_, ⟨es.push { key := kS p, val := .bool true, born := clock }, clock + 1, ?_, ?_⟩, fun x => by simp, grow (.map (es.push { key := kS p, val := .bool true, born := clock }) (clock + 1))⟩
    · unfold Instr.mapUpdate
      simp only [Sem.run_bind, run_underlying hM, Result.andThen_ok, hg, hk, Instr.findKey, run_underlying hK, hj, Sem.run_pure]
      rw [MapKept.run_setObj_map _ hb]
    · simp [hlt]
    · unfold EntS at he ⊢
      simp [he]
end Go.Proofs.YtannhfnpigiggaaGreatDoor

namespace Go.Proofs.YtannhfnpigiggaaGreatDoor
set_option linter.unusedSimpArgs false
set_option linter.unusedVariables false
open Go.RowKit

/-- The entries of a map: keys and values. -/
def EntA (es : List MapEntry) (ps : List (List UInt8 × Value)) : Prop := es.map (fun e => (e.key, e.val)) = ps.map fun q => (kS q.1, q.2)
def keyIn (p : List UInt8) (ps : List (List UInt8 × Value)) : Option Value := (ps.find? fun q => decide (p = q.1)).map (·.2)
theorem now_missA (p : List UInt8) : ∀ (es : List MapEntry) (ps : List (List UInt8 × Value)) (i : Nat), EntA es ps → keyIn p ps = none → Instr.findNow .string (kS p) es i = some none := by
  intro es
  induction es with
  | nil => intro ps i _ _; rfl
  | cons e es ih =>
    intro ps i h hp
    cases ps with
    | nil => simp [EntA] at h
    | cons q ps =>
      simp only [EntA, List.map_cons, List.cons.injEq, Prod.mk.injEq] at h
      have hne : p ≠ q.1 := fun e => by simp [keyIn, e] at hp
      have hp' : keyIn p ps = none := by simpa [keyIn, hne] using hp
      rw [Instr.findNow, h.1.1, same_str, decide_eq_false hne]
      exact ih ps (i + 1) h.2 hp'
theorem now_hitA (p : List UInt8) : ∀ (es : List MapEntry) (ps : List (List UInt8 × Value)) (i : Nat) (v : Value), EntA es ps → keyIn p ps = some v → ∃ j, Instr.findNow .string (kS p) es i = some (some (j, v)) := by
  intro es
  induction es with
  | nil =>
    intro ps i v h hp
    cases ps with
    | nil => simp [keyIn] at hp
    | cons q ps => simp [EntA] at h
  | cons e es ih =>
    intro ps i v h hp
    cases ps with
    | nil => simp [keyIn] at hp
    | cons q ps =>
      simp only [EntA, List.map_cons, List.cons.injEq, Prod.mk.injEq] at h
      by_cases hpq : p = q.1
      · have hv : v = q.2 := by simp [keyIn, hpq] at hp; exact hp.symm
        exact ⟨i, by rw [Instr.findNow, h.1.1, same_str, decide_eq_true hpq, h.1.2, hv]⟩
      · have hp' : keyIn p ps = some v := by simpa [keyIn, hpq] using hp
        obtain ⟨j, hj⟩ := ih ps (i + 1) v h.2 hp'
        refine ⟨j, ?_⟩
        rw [Instr.findNow, h.1.1, same_str, decide_eq_false hpq]
        exact hj
/-- Block b is a map with the entries ps. -/
def AMap (w : World) (b : Nat) (ps : List (List UInt8 × Value)) : Prop := ∃ es clock, w.heap[b]? = some (.map es clock) ∧ EntA es.toList ps
theorem AMap.lt {w : World} {b : Nat} {ps : List (List UInt8 × Value)} (h : AMap w b ps) : b < w.heap.size := by
  obtain ⟨es, clock, hb, he⟩ := h; exact heap_lt hb
theorem AMap.below {w w' : World} {b : Nat} {ps : List (List UInt8 × Value)} (h : AMap w b ps) (hb' : Below w.heap.size w w') : AMap w' b ps := by
  obtain ⟨es, clock, hb, he⟩ := h
  exact ⟨es, clock, (hb'.block b (heap_lt hb)).trans hb, he⟩
/-- The look-up with ok. -/
theorem AMap.look {P : Program} {M K E : TypeId} {z : Value} (hK : P.underlying K = some .string) (hM : P.underlying M = some (.map K E)) (hz : ∀ w, (zeroValue E).run P w = .ok z w) {w : World} {b : Nat} {ps : List (List UInt8 × Value)} (h : AMap w b ps) (s : ByteArray) :
    (Instr.lookup M (.map (some b)) (.string s) true).run P w = .ok (.tuple #[(keyIn (toL s) ps).getD z, .bool (keyIn (toL s) ps).isSome]) w := by
  obtain ⟨es, clock, hb, he⟩ := h
  have hs : Value.string s = kS (toL s) := by show _ = Value.string (ofL (toL s)); rw [ofL_toL]
  rw [hs]
  generalize toL s = p
  unfold Instr.lookup
  have hg : (getObj b).run P w = .ok (.map es clock) w := MapKept.run_getObj_map hb
  have hk := key_str hK w es.isEmpty p
  rcases hp : keyIn p ps with _ | v
  · have hj := now_missA p es.toList ps 0 he hp
    simp [Sem.run_bind, run_underlying hM, Result.andThen_ok, hg, hk, Instr.findKey, run_underlying hK, hj, Sem.run_pure, hp, hz]
  · obtain ⟨j, hj⟩ := now_hitA p es.toList ps 0 v he hp
    simp [Sem.run_bind, run_underlying hM, Result.andThen_ok, hg, hk, Instr.findKey, run_underlying hK, hj, Sem.run_pure, hp]
/-- What a new entry leaves. -/
theorem AMap.put {P : Program} {M K E : TypeId} (hK : P.underlying K = some .string) (hM : P.underlying M = some (.map K E)) {w : World} {b : Nat} {ps : List (List UInt8 × Value)} (h : AMap w b ps) (s : ByteArray) (v : Value) (hn : keyIn (toL s) ps = none) :
    ∃ w', (Instr.mapUpdate M (.map (some b)) (.string s) v).run P w = .ok () w' ∧ AMap w' b (ps ++ [(toL s, v)]) ∧ w.grownBy w' (some b) ∧ w'.heap.size = w.heap.size := by
  obtain ⟨es, clock, hb, he⟩ := h
  have hs : Value.string s = kS (toL s) := by show _ = Value.string (ofL (toL s)); rw [ofL_toL]
  rw [hs]
  generalize toL s = p at *
  have hg : (getObj b).run P w = .ok (.map es clock) w := MapKept.run_getObj_map hb
  have hk := key_str hK w false p
  have hlt := heap_lt hb
  have grow : ∀ o : Obj, w.grownBy { w with heap := w.heap.setIfInBounds b o } (some b) := fun o => by
    refine ⟨rfl, rfl, rfl, by simp, fun k hk hne => ?_⟩
    have : b ≠ k := fun e => hne (by rw [e])
    simp [this]
  have hj := now_missA p es.toList ps 0 he hn
  refine ⟨_, ?_, ⟨es.push { key := kS p, val := v, born := clock }, clock + 1, ?_, ?_⟩, grow (.map (es.push { key := kS p, val := v, born := clock }) (clock + 1)), by simp⟩
  · unfold Instr.mapUpdate
    simp only [Sem.run_bind, run_underlying hM, Result.andThen_ok, hg, hk, Instr.findKey, run_underlying hK, hj, Sem.run_pure]
    rw [MapKept.run_setObj_map _ hb]
  · simp [hlt]
  · unfold EntA at he ⊢
    simp [he]
end Go.Proofs.YtannhfnpigiggaaGreatDoor
