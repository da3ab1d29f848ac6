/- Walks over the matching of patterns. -/
import Derived.Test.YtcknomaaikeebaaDoorWm1
namespace Go.Proofs.YtcknomaaikeebaaDoor
set_option linter.unusedSimpArgs false
set_option linter.unusedVariables false
open Go.RowKit

/-- A pattern at block b. -/
def PatAt (w : World) (b : Nat) (txt : ByteArray) (es : List Em) : Prop := ∃ A c, w.heap[b]? = some (.cells #[.string txt, .slice A es.length c] 40 (0, 0)) ∧ Row w A (emsV es)
theorem PatAt.below {w w' : World} {b : Nat} {txt : ByteArray} {es : List Em} (h : PatAt w b txt es) (hb : Below w.heap.size w w') : PatAt w' b txt es := by
  obtain ⟨A, c, h1, h2⟩ := h
  exact ⟨A, c, (hb.block _ (heap_lt h1)).trans h1, h2.below hb⟩
theorem PatAt.cells {w : World} {b : Nat} {txt : ByteArray} {es : List Em} (h : PatAt w b txt es) : ∃ A c, w.cell? ⟨b, 0, none⟩ = some (.string txt) ∧ w.cell? ⟨b, 1, none⟩ = some (.slice A es.length c) ∧ Row w A (emsV es) := by
  obtain ⟨A, c, h1, h2⟩ := h
  exact ⟨A, c, by rw [Lib.cell_of_heap h1]; rfl, by rw [Lib.cell_of_heap h1]; rfl, h2⟩
theorem PatAt.lt {w : World} {b : Nat} {txt : ByteArray} {es : List Em} (h : PatAt w b txt es) : b < w.heap.size := by
  obtain ⟨A, c, h1, h2⟩ := h
  exact heap_lt h1

set_option maxHeartbeats 1000000 in
set_option maxRecDepth 100000 in
theorem pat_empty (b : Nat) (txt : ByteArray) (es : List Em) (w : World) (h : PatAt w b txt es) (hl : es.length ≤ 1000) :
    Calls Tryd.prog 14 #[.pointer (some ⟨b, 0, none⟩)] w fun e w' => e = .returned (.bool (emptyF es)) ∧ Below w.heap.size w w' := by
  obtain ⟨A, c, h0, h1, h2⟩ := h.cells
  have HC := Lib.hid (em_containsFunc A es c w h2 hl)
  clear h h2
  go_enter Tryd.func14, Tryd.ntmps14
  go_wp2_with fail
  (with_reducible refine HC.out.mono ?_)
  rintro e w1 ⟨rfl, hb1⟩
  go_wp2_with fail
  go_ret
  exact ⟨rfl, hb1⟩
set_option maxHeartbeats 1000000 in
set_option maxRecDepth 100000 in
theorem pat_empty_nil (w : World) : Calls Tryd.prog 14 #[.pointer none] w fun e w' => e = .returned (.bool true) ∧ w = w' := by
  go_enter Tryd.func14, Tryd.ntmps14
  go_wp2_with fail
  go_ret
  exact ⟨rfl, rfl⟩
/-- Block b holds the booleans l. -/
def BoolsAt (w : World) (b : Nat) (l : List Bool) : Prop := w.heap[b]? = some (.cells (l.map Value.bool).toArray 4 (0, 0))
theorem BoolsAt.cell {w : World} {b : Nat} {l : List Bool} (h : BoolsAt w b l) (k : Nat) (hk : k < l.length) : w.cell? ⟨b, k, none⟩ = some (.bool (l.getD k false)) := by
  rw [Lib.cell_of_heap h]; simp [List.getD, hk]
theorem BoolsAt.free {w : World} {b : Nat} {l : List Bool} (h : BoolsAt w b l) (k : Nat) : w.frozen? ⟨b, k, none⟩ = false := by
  unfold World.frozen?
  rw [show w.heap[(⟨b, k, none⟩ : Addr).block]? = _ from h]
  simp
theorem BoolsAt.set {w : World} {b : Nat} {l : List Bool} (h : BoolsAt w b l) (k : Nat) (x : Bool) : BoolsAt (w.setCell ⟨b, k, none⟩ (.bool x)) b (l.set k x) := by
  unfold BoolsAt
  rw [heap_set h]
  congr 2
  apply Array.ext'
  simp
theorem BoolsAt.below {w w' : World} {b : Nat} {l : List Bool} (h : BoolsAt w b l) (hb : Below w.heap.size w w') : BoolsAt w' b l := (hb.block _ (heap_lt h)).trans h
theorem BoolsAt.grown {w w' : World} {b m : Nat} {l : List Bool} (h : BoolsAt w b l) (hg : w.grownBy w' (some m)) (hne : b ≠ m) : BoolsAt w' b l := (hg.block _ (heap_lt h) (fun e => hne (by injection e))).trans h
theorem grown_below {a w w' : World} {m : Nat} (h : a.grownBy w (some m)) (hb : Below w.heap.size w w') : a.grownBy w' (some m) :=
  ⟨hb.os.trans h.os, hb.tape.trans h.tape, hb.output.trans h.output, Nat.le_trans h.size hb.size, fun k hk hne => (hb.block k (Nat.lt_of_lt_of_le hk h.size)).trans (h.block k hk hne)⟩
theorem grown_set {a w : World} {m : Nat} (h : a.grownBy w (some m)) (k : Nat) (v : Value) : a.grownBy (w.setCell ⟨m, k, none⟩ v) (some m) :=
  ⟨h.os, h.tape, h.output, by simpa using h.size, fun j hj hne => (Below.heap_setCell _ _ _ _ (fun e => hne (by rw [e]))).trans (h.block j hj hne)⟩
theorem PatAt.grown {w w' : World} {b m : Nat} {txt : ByteArray} {es : List Em} (h : PatAt w b txt es) (hg : w.grownBy w' (some m)) (hne : b ≠ m) (hA : ∀ A c, w.heap[b]? = some (.cells #[.string txt, .slice A es.length c] 40 (0, 0)) → ∀ bb off, A = some ⟨bb, off, none⟩ → es = [] ∨ bb ≠ m) : PatAt w' b txt es := by
  obtain ⟨A, c, h1, h2⟩ := h
  refine ⟨A, c, (hg.block _ (heap_lt h1) (fun e => hne (by injection e))).trans h1, ?_⟩
  rcases h2 with h2 | ⟨bb, off, rfl, hlt, hc⟩
  · exact .inl h2
  · rcases hA _ _ h1 bb off rfl with h3 | h3
    · exact .inl (by simp [h3])
    · exact .inr ⟨bb, off, rfl, Nat.lt_of_lt_of_le hlt hg.size, fun j v hv => by rw [hg.cell_far ⟨bb, off + j, none⟩ hlt (fun e => h3 (by injection e))]; exact hc j v hv⟩
/-- A pattern whose memory lies below N. -/
def PatUnder (N : Nat) (w : World) (b : Nat) (txt : ByteArray) (es : List Em) : Prop := ∃ A c, b < N ∧ w.heap[b]? = some (.cells #[.string txt, .slice A es.length c] 40 (0, 0)) ∧ Row w A (emsV es) ∧ ∀ bb off, A = some ⟨bb, off, none⟩ → es = [] ∨ bb < N
theorem PatAt.under {w : World} {b : Nat} {txt : ByteArray} {es : List Em} (h : PatAt w b txt es) : PatUnder w.heap.size w b txt es := by
  obtain ⟨A, c, h1, h2⟩ := h
  refine ⟨A, c, heap_lt h1, h1, h2, fun bb off e => ?_⟩
  rcases h2 with h2 | ⟨bb', off', e', hlt, hc⟩
  · left; simpa using h2
  · rw [e'] at e; injection e with e; injection e with e; subst e; exact .inr hlt
theorem PatUnder.grown {N : Nat} {w w' : World} {b m : Nat} {txt : ByteArray} {es : List Em} (h : PatUnder N w b txt es) (hg : w.grownBy w' (some m)) (hm : N ≤ m) : PatUnder N w' b txt es := by
  obtain ⟨A, c, hb, h1, h2, h3⟩ := h
  refine ⟨A, c, hb, (hg.block _ (heap_lt h1) (fun e => by injection e; omega)).trans h1, ?_, h3⟩
  rcases h2 with h2 | ⟨bb, off, rfl, hlt, hc⟩
  · exact .inl h2
  · rcases h3 bb off rfl with h4 | h4
    · exact .inl (by simp [h4])
    · exact .inr ⟨bb, off, rfl, Nat.lt_of_lt_of_le hlt hg.size, fun j v hv => by rw [hg.cell_far ⟨bb, off + j, none⟩ hlt (fun e => by injection e with e; have e' : bb = m := e; omega)]; exact hc j v hv⟩
theorem PatUnder.at {N : Nat} {w : World} {b : Nat} {txt : ByteArray} {es : List Em} (h : PatUnder N w b txt es) : PatAt w b txt es := by
  obtain ⟨A, c, hb, h1, h2, h3⟩ := h
  exact ⟨A, c, h1, h2⟩
theorem PatUnder.below {N : Nat} {w w' : World} {b : Nat} {txt : ByteArray} {es : List Em} (h : PatUnder N w b txt es) (hb : Below N w w') : PatUnder N w' b txt es := by
  obtain ⟨A, c, hb', h1, h2, h3⟩ := h
  refine ⟨A, c, hb', (hb.block _ hb').trans h1, ?_, h3⟩
  rcases h2 with h2 | ⟨bb, off, rfl, hlt, hc⟩
  · exact .inl h2
  · rcases h3 bb off rfl with h4 | h4
    · exact .inl (by simp [h4])
    · exact .inr ⟨bb, off, rfl, Nat.lt_of_lt_of_le hlt hb.size, fun j v hv => by rw [hb.cell (p := ⟨bb, off + j, none⟩) h4]; exact hc j v hv⟩

def SpreadPost (w : World) (m : Nat) (l : List Bool) (e : Ending) (w' : World) : Prop := e = .returned (.tuple #[]) ∧ BoolsAt w' m l ∧ w.grownBy w' (some m)
theorem emAt_get (es : List Em) (k : Nat) (h : k < es.length) : emAt es k = es[k] := by simp [emAt, List.getD, h]
theorem row_grown {N : Nat} {w w' : World} {m : Nat} {A : Option Addr} {es : List Em} (h : Row w A (emsV es)) (h3 : ∀ bb off, A = some ⟨bb, off, none⟩ → es = [] ∨ bb < N) (hg : w.grownBy w' (some m)) (hm : N ≤ m) : Row w' A (emsV es) := by
  rcases h with h2 | ⟨bb, off, rfl, hlt, hc⟩
  · exact .inl h2
  · rcases h3 bb off rfl with h4 | h4
    · exact .inl (by simp [h4])
    · exact .inr ⟨bb, off, rfl, Nat.lt_of_lt_of_le hlt hg.size, fun j v hv => by rw [hg.cell_far ⟨bb, off + j, none⟩ hlt (fun e => by injection e with e; have e' : bb = m := e; omega)]; exact hc j v hv⟩
set_option maxHeartbeats 4000000 in
set_option maxRecDepth 100000 in
theorem wm_spread (pb m : Nat) (txt : ByteArray) (es : List Em) (l : List Bool) (cap : Nat) (N : Nat) (w : World) (hp : PatUnder N w pb txt es) (hm : BoolsAt w m l) (hN : N ≤ m) (hl : l.length = es.length + 1) (he : es.length ≤ 1000) :
    Calls Tryd.prog 21 #[.pointer (some ⟨pb, 0, none⟩), .slice (some ⟨m, 0, none⟩) (es.length + 1) cap] w (SpreadPost w m (spr es l es.length)) := by
  obtain ⟨A, c, hpb, hh, hrow, hund⟩ := hp
  have h1 : w.cell? ⟨pb, 1, none⟩ = some (.slice A es.length c) := by rw [Lib.cell_of_heap hh]; rfl
  have HROW := Lib.hid (fun wx (hg : w.grownBy wx (some m)) => row_grown hrow hund hg hN)
  have HM := Lib.hid hm; have HL := Lib.hid hl
  clear hm hl hrow hund hh
  go_enter Tryd.func21, Tryd.ntmps21
  go_wp2_with fail
  go_loopw [11, 4] (fun v _ wr => ∃ k : Nat, k ≤ es.length ∧ v = .int .i64 k ∧ BoolsAt wr m (spr es l k) ∧ w.grownBy wr (some m)) (fun v _ _ => es.length - (intOf v).toNat)
  case atStart => exact ⟨0, by omega, rfl, HM.out, World.grownBy.refl _ _⟩
  case round =>
    obtain ⟨k, hk, rfl, hB, hg⟩ := hrel
    clear h1
    by_cases hlt : k < es.length
    · have hk1 : (0 : Int) ≤ (k : Int) := by omega
      have hk2 : (k : Int) < (es.length : Int) := by omega
      have hk3 : (k : Int) < ((es.length + 1 : Nat) : Int) := by omega
      have hk4 : (0 : Int) ≤ (k : Int) + 1 := by omega
      have hk5 : (k : Int) + 1 < ((es.length + 1 : Nat) : Int) := by omega
      obtain ⟨b, off, hA, hcell⟩ := (HROW.out _ hg).em hlt
      have HSL := Lib.hid (spr_length es l k)
      have hc1 := hB.cell k (by rw [HSL.out, HL.out]; omega)
      have hc2 := hB.cell (k + 1) (by rw [HSL.out, HL.out]; omega)
      have hf2 := hB.free (k + 1)
      have HS := Lib.hid (spr_succ es l k)
      rw [sprStep, emAt_get es k hlt] at HS
      have HB := Lib.hid hB; have HG := Lib.hid hg
      subst hA
      clear hB hg
      have hmlt := heap_lt HB.out
      generalize es[k] = x at *
      generalize (spr es l k).getD (k + 1) false = old at *
      rcases hb0 : (spr es l k).getD k false with _ | _
      · rw [hb0] at hc1
        rw [hb0, Bool.false_and, if_neg (by simp)] at HS
        clear hb0
        go_wp2_with fail
        go_roundw
        case rel => exact ⟨k + 1, by omega, by go_num, by rw [HS.out]; exact HB.out, HG.out⟩
        case measure => simp [intOf] <;> omega
      · rw [hb0] at hc1
        rw [hb0, Bool.true_and] at HS
        clear hb0
        go_wp2_with fail
        (with_reducible refine (em_isStar x _).mono ?_)
        rintro e w1 ⟨rfl, hb1⟩
        have HB1 := Lib.hid (HB.out.below hb1)
        have HG1 := Lib.hid (grown_below HG.out hb1)
        have hc3 : w1.cell? ⟨m, k + 1, none⟩ = some (.bool old) := (hb1.cell (p := ⟨m, k + 1, none⟩) hmlt).trans hc2
        have hf3 : w1.frozen? ⟨m, k + 1, none⟩ = false := HB1.out.free (k + 1)
        have hlt3 : m < w1.heap.size := Nat.lt_of_lt_of_le hmlt hb1.size
        clear hc1 hc2 hf2 hb1 hcell
        rcases hx : x.isStar with _ | _
        · rw [hx, if_neg (by simp)] at HS
          go_wp2_with fail
          go_roundw
          case rel => exact ⟨k + 1, by omega, by go_num, by rw [HS.out]; exact HB1.out, HG1.out⟩
          case measure => simp [intOf] <;> omega
        · rw [hx, if_pos rfl] at HS
          go_wp2_with fail
          go_roundw
          case rel => exact ⟨k + 1, by omega, by go_num, by rw [HS.out]; exact HB1.out.set _ _, grown_set HG1.out _ _⟩
          case measure => simp [intOf] <;> omega
    · obtain rfl : k = es.length := by omega
      have HB := Lib.hid hB
      go_wp2_with fail

      exact bodyPost_ret (results_none rfl _ _ _) rfl ⟨rfl, HB.out, hg⟩
end Go.Proofs.YtcknomaaikeebaaDoor
