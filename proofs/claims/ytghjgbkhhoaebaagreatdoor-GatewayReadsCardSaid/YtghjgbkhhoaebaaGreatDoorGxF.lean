/- The walk over the law's same, at equal lists. -/
import Derived.Test.YtghjgbkhhoaebaaGreatDoorPt30
import Derived.Test.YtghjgbkhhoaebaaGreatDoorPt14
namespace Go.Proofs.YtghjgbkhhoaebaaGreatDoor
set_option linter.unusedSimpArgs false
set_option linter.unusedVariables false
open Go.RowKit

theorem lnsV_get : ∀ (l : List Ln) (k : Nat) (h : k < l.length), (lnsV l)[k * 3]? = some (.int .i64 (l[k].min : Int)) ∧ (lnsV l)[k * 3 + 1]? = some (.string (ofL l[k].nick)) ∧ (lnsV l)[k * 3 + 2]? = some (.string (ofL l[k].text))
  | [], k, h => by simp at h
  | x :: r, 0, h => by simp [lnsV]
  | x :: r, k + 1, h => by
    have ih := lnsV_get r k (by simpa using h)
    have e : lnsV (x :: r) = .int .i64 (x.min : Int) :: .string (ofL x.nick) :: .string (ofL x.text) :: lnsV r := by simp [lnsV]
    rw [e, show (k + 1) * 3 = k * 3 + 1 + 1 + 1 from by omega]
    simp only [List.getElem?_cons_succ, List.getElem_cons_succ]
    exact ih
theorem lns_cells {w : World} {A : Option Addr} {l : List Ln} (h : Row w A (lnsV l)) {k : Nat} (hk : k < l.length) : ∃ b off, A = some ⟨b, off, none⟩ ∧ b < w.heap.size ∧ w.cell? ⟨b, off + k * 3, none⟩ = some (.int .i64 (l[k].min : Int)) ∧ w.cell? ⟨b, off + k * 3 + 1, none⟩ = some (.string (ofL l[k].nick)) ∧ w.cell? ⟨b, off + k * 3 + 2, none⟩ = some (.string (ofL l[k].text)) := by
  obtain ⟨b, off, rfl, hb, hc⟩ := h.at (k := k * 3) (by rw [lnsV_length]; omega)
  obtain ⟨h0, h1, h2⟩ := lnsV_get l k hk
  exact ⟨b, off, rfl, hb, hc _ _ h0, hc _ _ h1, hc _ _ h2⟩
set_option maxHeartbeats 4000000 in
set_option maxRecDepth 100000 in
theorem lw_same (A B : Option Addr) (l : List Ln) (c d : Nat) (w : World) (hr : Row w A (lnsV l)) (hq : Row w B (lnsV l)) (hl : l.length ≤ 1000000) :
    Calls Tryz.prog 14 #[.slice A l.length c, .slice B l.length d] w fun e w' => e = .returned (.bool true) ∧ Below w.heap.size w w' := by
  have HR := Lib.hid hr; have HQ := Lib.hid hq; clear hr hq
  have hlm' : ((l.length : Int) != (l.length : Int)) = false := by simp
  go_enter Tryz.func14, Tryz.ntmps14
  go_wp2_with fail
  go_loopw [5] (fun ix wr => ∃ k : Nat, k ≤ l.length ∧ ix = .int .i64 (k : Int) ∧ Below w.heap.size w wr) (fun ix _ => l.length - (intOf ix).toNat)
  case atStart => exact ⟨0, by omega, rfl, Below.refl _ _⟩
  case round =>
    obtain ⟨k, hk, rfl, hB⟩ := hrel
    have k0 : (0 : Int) ≤ (k : Int) := by omega
    by_cases hlt : k < l.length
    · have k1 : (k : Int) < (l.length : Int) := by omega
      obtain ⟨bb, off, rfl, hb1, c0, c1, c2⟩ := lns_cells (HR.out.below hB) hlt
      obtain ⟨bc, off2, rfl, hb2, d0, d1, d2⟩ := lns_cells (HQ.out.below hB) hlt
      generalize l[k] = x at *
      obtain ⟨m, n, t⟩ := x
      simp only at c0 c1 c2 d0 d1 d2
      generalize ofL n = n' at *
      generalize ofL t = t' at *
      go_wp2_with fail
      go_quiet (fail)
      go_wp2_with fail
      go_roundw
      case rel => exact ⟨k + 1, by omega, by go_num, below_drewN hB _⟩
      case measure => simp [intOf] <;> omega
    · have k1 : (l.length : Int) ≤ (k : Int) := by omega
      go_wp2_with fail
      go_ret
      exact ⟨rfl, hB⟩
end Go.Proofs.YtghjgbkhhoaebaaGreatDoor
