/- Words for the walk over commonRest. -/
import Derived.Test.YtcknomaaikeebaaDoorWm7
import Derived.Deep.QuietTactic
namespace Go.Proofs.YtcknomaaikeebaaDoor
set_option linter.unusedSimpArgs false
set_option linter.unusedVariables false
open Go.RowKit

/-- One place of the table. -/
def stepF (ps qs : List Em) (m : PosMap) (i k : Nat) : Option Bs :=
  if ¬ i < ps.length ∧ ¬ k < qs.length then some [] else
  let sp := decide (i < ps.length) && (emAt ps i).isStar
  let sq := decide (k < qs.length) && (emAt qs k).isStar
  let r1 := if sp then tryF none [] (m.lookup (i + 1, k)) else none
  let r2 := if sq then tryF r1 [] (m.lookup (i, k + 1)) else r1
  if ¬ i < ps.length ∨ ¬ k < qs.length ∨ (sp = true ∧ sq = true) then r2 else
  match smallF (emAt ps i) (emAt qs k) with
  | none => r2
  | some h => tryF r2 [h] (m.lookup (if sp then i else i + 1, if sq then k else k + 1))
theorem RestAt.facts {w : World} {N mb i k : Nat} {m : PosMap} {cur : Option Bs} {wr : World} (h : RestAt w N mb i k m cur wr) :
    wr.cell? ⟨N, 0, none⟩ = some (.int .i64 i) ∧ wr.cell? ⟨N, 1, none⟩ = some (.int .i64 k) ∧ wr.cell? ⟨N + 1 + 1, 0, none⟩ = some (.string (ofL (cur.getD []))) ∧ wr.cell? ⟨N + 1 + 1 + 1, 0, none⟩ = some (.bool cur.isSome) ∧ wr.frozen? ⟨N + 1 + 1, 0, none⟩ = false ∧ wr.frozen? ⟨N + 1 + 1 + 1, 0, none⟩ = false ∧ N + 1 + 1 + 1 < wr.heap.size :=
  ⟨by rw [Lib.cell_of_heap h.place]; rfl, by rw [Lib.cell_of_heap h.place]; rfl, by rw [Lib.cell_of_heap h.best]; rfl, by rw [Lib.cell_of_heap h.ok]; rfl, Lib.frozen_of_heap h.best 0, Lib.frozen_of_heap h.ok 0, heap_lt h.ok⟩
theorem rest_new (w : World) (mb i k : Nat) (m : PosMap) (h : MapP w mb m) :
    RestAt w w.heap.size mb i k m none ((((w.alloc (.cells #[.int .i64 i, .int .i64 k] 64)).alloc (.cells #[.map (some mb)] 61)).alloc (.cells #[.string ⟨#[]⟩] 9)).alloc (.cells #[.bool false] 4)) := by
  have hb : Below w.heap.size w ((((w.alloc (.cells #[.int .i64 i, .int .i64 k] 64)).alloc (.cells #[.map (some mb)] 61)).alloc (.cells #[.string ⟨#[]⟩] 9)).alloc (.cells #[.bool false] 4)) :=
    ((((Below.refl _ _).alloc (Nat.le_refl _) _).alloc (by simp) _).alloc (by simp; omega) _).alloc (by simp; omega) _
  refine ⟨?_, ?_, ?_, ?_, h.below hb h.lt, h.lt, hb⟩
  · rw [Lib.alloc_old _ _ _ (by simp only [World.size_alloc]; omega), Lib.alloc_old _ _ _ (by simp only [World.size_alloc]; omega), Lib.alloc_old _ _ _ (by simp only [World.size_alloc]; omega)]; exact heap_alloc_new w _
  · rw [Lib.alloc_old _ _ _ (by simp only [World.size_alloc]; omega), Lib.alloc_old _ _ _ (by simp only [World.size_alloc]; omega)]
    have := heap_alloc_new (w.alloc (.cells #[.int .i64 i, .int .i64 k] 64)) (.cells #[.map (some mb)] 61 (0, 0))
    rw [World.size_alloc] at this
    exact this
  · rw [Lib.alloc_old _ _ _ (by simp only [World.size_alloc]; omega)]
    have := heap_alloc_new ((w.alloc (.cells #[.int .i64 i, .int .i64 k] 64)).alloc (.cells #[.map (some mb)] 61)) (.cells #[.string ⟨#[]⟩] 9 (0, 0))
    rw [World.size_alloc, World.size_alloc] at this
    exact this
  · have := heap_alloc_new (((w.alloc (.cells #[.int .i64 i, .int .i64 k] 64)).alloc (.cells #[.map (some mb)] 61)).alloc (.cells #[.string ⟨#[]⟩] 9)) (.cells #[.bool false] 4 (0, 0))
    rw [World.size_alloc, World.size_alloc, World.size_alloc] at this
    exact this
theorem results_two {P : Program} {fn : Func} {p q : Tmp} {s b : TypeId} (h : fn.results = #[.cell p s, .cell q b]) (tmps : Array Value) (w : World) (ap aq : Addr) (v1 v2 : Value) (hp : tmps.getD p undef = .pointer (some ap)) (hq : tmps.getD q undef = .pointer (some aq))
    (hs : ∀ w, (isAgg s).run P w = .ok false w) (hb : ∀ w, (isAgg b).run P w = .ok false w) (h1 : w.cell? ap = some v1) (h2 : w.cell? aq = some v2) : (results fn tmps).run P w = .ok (.tuple #[v1, v2]) w := by
  have hp' : tmps[p]?.getD undef = .pointer (some ap) := by simpa using hp
  have hq' : tmps[q]?.getD undef = .pointer (some aq) := by simpa using hq
  simp [results, h, hp', hq', asAddr, loadVar, hs, hb, h1, h2]
theorem agg_no9 (w : World) : (isAgg 9).run Tryd.prog w = .ok false w := by kernel_rfl
theorem agg_no4 (w : World) : (isAgg 4).run Tryd.prog w = .ok false w := by kernel_rfl
theorem drew_facts {w : World} {N mb i k : Nat} {m : PosMap} {cur : Option Bs} {wr : World} (h : RestAt w N mb i k m cur wr) : RestAt w N mb i k m cur wr.drew :=
  ⟨h.place, h.rests, h.best, h.ok, h.map, h.lt, h.bel.drew⟩
theorem rest_same {w : World} {N mb i k : Nat} {m : PosMap} {cur : Option Bs} {wr : World} (h : RestAt w N mb i k m cur wr) : RestAt w N mb i k m cur (((wr.drew).setCell ⟨N + 1 + 1, 0, none⟩ (.string (ofL (cur.getD [])))).setCell ⟨N + 1 + 1 + 1, 0, none⟩ (.bool cur.isSome)) := by
  have e1 : ∀ j, j ≠ N + 1 + 1 → j ≠ N + 1 + 1 + 1 → ((wr.drew.setCell ⟨N + 1 + 1, 0, none⟩ (.string (ofL (cur.getD [])))).setCell ⟨N + 1 + 1 + 1, 0, none⟩ (.bool cur.isSome)).heap[j]? = wr.heap[j]? := fun j h1 h2 =>
    (Below.heap_setCell _ _ _ _ (fun e => h2 e)).trans (Below.heap_setCell _ _ _ _ (fun e => h1 e))
  have hlt := h.lt
  refine ⟨(e1 _ (by omega) (by omega)).trans h.place, (e1 _ (by omega) (by omega)).trans h.rests, ?_, ?_, ?_, h.lt, ?_⟩
  · rw [Below.heap_setCell _ _ _ _ (fun e => by simp at e)]
    exact heap_set (drew_facts h).best _
  · have : (wr.drew.setCell ⟨N + 1 + 1, 0, none⟩ (.string (ofL (cur.getD [])))).heap[N + 1 + 1 + 1]? = some (.cells #[.bool cur.isSome] 4 (0, 0)) := by
      rw [Below.heap_setCell _ _ _ _ (fun e => by simp at e)]; exact h.ok
    exact heap_set this _
  · obtain ⟨es, clock, hb, he⟩ := h.map
    exact ⟨es, clock, (e1 _ (by omega) (by omega)).trans hb, he⟩
  · exact (h.bel.drew.setCell (p := ⟨N + 1 + 1, 0, none⟩) (by show N ≤ N + 1 + 1; omega) _).setCell (p := ⟨N + 1 + 1 + 1, 0, none⟩) (by show N ≤ N + 1 + 1 + 1; omega) _
theorem rest_write {w : World} {N mb i k : Nat} {m : PosMap} {cur : Option Bs} {wr : World} (h : RestAt w N mb i k m cur wr) (s : Bs) (S : ByteArray) (hS : S = ofL s) : RestAt w N mb i k m (some s) (((wr.drew).setCell ⟨N + 1 + 1, 0, none⟩ (.string S)).setCell ⟨N + 1 + 1 + 1, 0, none⟩ (.bool true)) :=
  RestAt.write (drew_facts h) s S hS
/-- What commonRest hands back. -/
def RestPost (w : World) (r : Option Bs) (e : Ending) (w' : World) : Prop := e = .returned (.tuple #[.string (ofL (r.getD [])), .bool r.isSome]) ∧ Below w.heap.size w w'
/-- A pattern's element, in every later world. -/
structure PatRd (w : World) (b : Nat) (es : List Em) (wr : World) (A : Option Addr) (c : Nat) : Prop where
  cell : wr.cell? ⟨b, 1, none⟩ = some (.slice A es.length c)
  row : Row wr A (emsV es)
theorem PatAt.rd {w : World} {b : Nat} {txt : ByteArray} {es : List Em} (h : PatAt w b txt es) : ∃ A c, ∀ wr, Below w.heap.size w wr → PatRd w b es wr A c := by
  obtain ⟨A, c, h0, h1, h2⟩ := h.cells
  exact ⟨A, c, fun wr hb => ⟨(hb.cell (p := ⟨b, 1, none⟩) h.lt).trans h1, h2.below hb⟩⟩

theorem pat_el {w : World} {b : Nat} {es : List Em} {wr : World} {A : Option Addr} {c i eb eo : Nat} (h : PatRd w b es wr A c) (hi : i < es.length) (hA : A = some ⟨eb, eo, none⟩) :
    wr.cell? ⟨b, 1, none⟩ = some (.slice (some ⟨eb, eo, none⟩) es.length c) ∧ wr.cell? ⟨eb, eo + i, none⟩ = some (emV es[i]) := by
  subst hA
  obtain ⟨b', o', e, hc⟩ := h.row.em hi
  injection e with e; injection e with e1 e2; subst e1 e2
  exact ⟨h.cell, hc⟩
theorem pat_el_lt {w : World} {b : Nat} {es : List Em} {wr : World} {A : Option Addr} {c i eb eo : Nat} (h : PatRd w b es wr A c) (hi : i < es.length) (hA : A = some ⟨eb, eo, none⟩) : eb < wr.heap.size := by
  obtain ⟨b', o', e, hl, hc⟩ := h.row.at (k := i) (by simpa using hi)
  subst hA; injection e with e; injection e with e1 e2; subst e1
  exact hl
theorem wm_try' (w : World) (N mb i k : Nat) (m : PosMap) (cur : Option Bs) (wr : World) (H : ByteArray) (x y : Nat) (X Y : Int) (hX : X = x) (hY : Y = y) (h : RestAt w N mb i k m cur wr) (hH : H.size ≤ 1) (hc : (cur.getD []).length ≤ 1000) (hm : ((m.lookup (x, y)).getD []).length ≤ 1000) :
    Calls Tryd.prog 32 #[.string H, .agg #[.int .i64 X, .int .i64 Y], .pointer (some ⟨N + 1, 0, none⟩), .pointer (some ⟨N + 1 + 1 + 1, 0, none⟩), .pointer (some ⟨N + 1 + 1, 0, none⟩)] wr fun e w' => e = .returned (.tuple #[]) ∧ RestAt w N mb i k m (tryF cur (toL H) (m.lookup (x, y))) w' := by
  subst hX hY
  exact wm_try w N mb i k m cur wr H x y h hH hc hm
theorem tryF_len' (cur r : Option Bs) (h : Bs) (n : Nat) (hc : (cur.getD []).length ≤ n) (hr : ∀ v, r = some v → (h ++ v).length ≤ n) : ((tryF cur h r).getD []).length ≤ n := by
  cases r with
  | none => exact hc
  | some v =>
    cases cur with
    | none => exact hr v rfl
    | some b =>
      unfold tryF
      simp only
      split
      · exact hr v rfl
      · exact hc
theorem look_len {m : PosMap} (hv : ∀ x v, m.lookup x = some v → v.length ≤ 500) (x : Nat × Nat) : ((m.lookup x).getD []).length ≤ 1000 := by
  cases e : m.lookup x with
  | none => simp
  | some v => have := hv x v e; simp only [Option.getD_some]; omega

end Go.Proofs.YtcknomaaikeebaaDoor
