/- The walk over Common. -/
import Derived.Test.YtcknomaaikeebaaDoorWm8
import Derived.Test.YtcknomaaikeebaaDoorWmE
namespace Go.Proofs.YtcknomaaikeebaaDoor
set_option linter.unusedSimpArgs false
set_option linter.unusedVariables false
open Go.RowKit

theorem rows_new (ps qs : List Em) : Rows_ ps qs (ps.length + 1) [] := ⟨fun a b ha hb => by rw [if_neg (by omega)]; rfl, fun x v h => by cases h⟩
structure ComAt (w : World) (mb : Nat) (m : PosMap) (wr : World) : Prop where
  map : MapP wr mb m
  le : w.heap.size ≤ mb
  bel : Below w.heap.size w wr
theorem run_makeMap (w : World) : ∃ W, (Instr.makeMap 61 none).run Tryd.prog w = .ok (.map (some w.heap.size)) W ∧ MapP W w.heap.size [] ∧ Below w.heap.size w W := by
  refine ⟨w.alloc (.map #[] 0), by kernel_rfl, ⟨#[], 0, heap_alloc_new w _, rfl⟩, (Below.refl _ _).alloc (Nat.le_refl _) _⟩

set_option maxHeartbeats 8000000 in
set_option maxRecDepth 100000 in
theorem wm_common (pb qb : Nat) (tp tq : ByteArray) (ps qs : List Em) (w : World) (hp : PatAt w pb tp ps) (hq : PatAt w qb tq qs) (hop : ∀ e ∈ ps, e.Ok) (hlp : ps.length ≤ 100) (hlq : qs.length ≤ 100) :
    Calls Tryd.prog 8 #[.pointer (some ⟨pb, 0, none⟩), .pointer (some ⟨qb, 0, none⟩)] w (RestPost w (comF ps qs)) := by
  have HP := Lib.hid hp; have HQ := Lib.hid hq; have HOP := Lib.hid hop
  have hpl := hp.lt; have hql := hq.lt
  obtain ⟨A, ca, hpr⟩ := hp.rd
  obtain ⟨B, cb, hqr⟩ := hq.rd
  have HPR := Lib.hid hpr; have HQR := Lib.hid hqr
  clear hp hq hop hpr hqr
  obtain ⟨W, hmk, hmp, hbm⟩ := run_makeMap w
  have HC := Lib.hid (show ComAt w w.heap.size [] W from ⟨hmp, Nat.le_refl _, hbm⟩)
  have hp1 := (HPR.out _ hbm).cell
  clear hmp hbm
  go_enter Tryd.func8, Tryd.ntmps8
  go_wp2_with fail
  clear hmk hp1
  go_loopw [7, 8] (fun v7 _ wr => ∃ (k : Nat) (m : PosMap), k ≤ ps.length + 1 ∧ v7 = .int .i64 ((k : Int) - 1) ∧ Rows_ ps qs k m ∧ ComAt w w.heap.size m wr) (fun v7 _ _ => (intOf v7 + 1).toNat)
  case atStart => exact ⟨ps.length + 1, [], Nat.le_refl _, by congr 1; omega, rows_new ps qs, HC.out⟩
  case round =>
    obtain ⟨k, m, hk, rfl, hrows, hC⟩ := hrel
    clear HC
    obtain ⟨wo, rfl⟩ : ∃ wo : World, wo = wr := ⟨_, rfl⟩
    cases k with
    | zero =>
      have HFIN := Lib.hid (show m.lookup (0, 0) = comF ps qs from by rw [hrows.1 0 0 (by omega) (by omega), if_pos (by omega)]; rfl)
      have hlook := map_look hC.map 0 0 0 0 rfl rfl
      rw [HFIN.out] at hlook
      go_wp2_with fail
      go_ret2
      exact ⟨rfl, hC.bel⟩
    | succ i =>
      have hi : i ≤ ps.length := by omega
      have ei : (((i + 1 : Nat) : Int) - 1) = (i : Int) := by omega
      rw [ei]
      have hi1 : (0 : Int) ≤ (i : Int) := by omega
      have hq1 := (HQR.out _ hC.bel).cell
      have HPL := Lib.hid hrows.places
      have HC := Lib.hid hC
      clear hrows hC
      go_wp2_with fail
      clear hq1
      go_loopw [8, 9] (fun v8 _ wx => ∃ (j : Nat) (m : PosMap), j ≤ qs.length + 1 ∧ v8 = .int .i64 ((j : Int) - 1) ∧ Places ps qs i j m ∧ ComAt w w.heap.size m wx) (fun v8 _ _ => (intOf v8 + 1).toNat)
      case atStart => exact ⟨qs.length + 1, m, Nat.le_refl _, by congr 1; omega, HPL.out, HC.out⟩
      case round =>
        obtain ⟨j, m2, hj, rfl, hpl2, hC2⟩ := hrel
        clear HC HPL
        obtain ⟨wi, rfl⟩ : ∃ wi : World, wi = wr := ⟨_, rfl⟩
        cases j with
        | zero =>
          have HRW := Lib.hid hpl2.rows
          go_wp2_with fail
          go_roundw
          case rel => exact ⟨i, m2, by omega, by go_num, HRW.out, hC2⟩
          case measure => simp [intOf] <;> omega
        | succ k =>
          have hk2 : k ≤ qs.length := by omega
          have ek : (((k + 1 : Nat) : Int) - 1) = (k : Int) := by omega
          rw [ek]
          have hk1 : (0 : Int) ≤ (k : Int) := by omega
          obtain ⟨hst, hno, hn, hy⟩ := hpl2.step hi hk2 (by omega)
          have HREST := Lib.hid (wm_rest wi pb qb w.heap.size i k tp tq ps qs m2 (HP.out.below hC2.bel) (HQ.out.below hC2.bel) hC2.map HOP.out hlp hlq hi hk2 hpl2.2)
          rw [hst] at HREST
          have HN := Lib.hid hn; have HY := Lib.hid hy; have HNO := Lib.hid hno
          have HC2 := Lib.hid hC2
          clear hst hno hn hy hpl2 hC2
          go_wp2_with fail
          (with_reducible refine HREST.out.mono ?_)
          rintro e w3 ⟨rfl, hb3⟩
          have HC3 := Lib.hid (show ComAt w w.heap.size m2 w3 from ⟨HC2.out.map.below hb3 HC2.out.map.lt, HC2.out.le, HC2.out.bel.trans (hb3.mono HC2.out.bel.size)⟩)
          clear HC2 HREST hb3
          rcases hc : comF (ps.drop i) (qs.drop k) with _ | t
          · have HPN := Lib.hid (HN.out hc)
            clear HN HY hc
            go_wp2_with fail
            go_roundw
            case rel => exact ⟨k, m2, by omega, by go_num, HPN.out, HC3.out⟩
            case measure => simp [intOf] <;> omega
          · have HPN := Lib.hid (HY.out t hc)
            obtain ⟨w4, hput, hm4, hg4⟩ := map_put HC3.out.map i k t HNO.out
            have HC4 := Lib.hid (show ComAt w w.heap.size _ w4 from ⟨hm4, Nat.le_refl _, HC3.out.bel.grown hg4 HC3.out.bel.size (fun x hx => by injection hx with hx; omega)⟩)
            clear HN HY hc hm4 hg4
            simp only [Option.getD_some]
            go_wp2_with fail
            go_roundw
            case rel => exact ⟨k, _, by omega, by go_num, HPN.out, HC4.out⟩
            case measure => simp [intOf] <;> omega
end Go.Proofs.YtcknomaaikeebaaDoor
