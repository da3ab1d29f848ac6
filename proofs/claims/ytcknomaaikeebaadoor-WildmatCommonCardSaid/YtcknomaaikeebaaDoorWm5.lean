/- The walk over Match. -/
import Derived.Test.YtcknomaaikeebaaDoorWm4
namespace Go.Proofs.YtcknomaaikeebaaDoor
set_option linter.unusedSimpArgs false
set_option linter.unusedVariables false
open Go.RowKit

set_option maxHeartbeats 1000000 in
theorem pat_match_nil (s : ByteArray) (w : World) : Calls Tryd.prog 10 #[.pointer none, .string s] w fun e w' => e = .returned (.bool false) ∧ w = w' := by
  go_enter Tryd.func10, Tryd.ntmps10
  go_wp2_with fail
  go_ret
  exact ⟨rfl, rfl⟩

theorem info_bool : (Tryd.prog.info? 4).map (fun i => (i.zero, i.size, i.bytes)) = some (some (.bool false), 1, 1) := by kernel_rfl
theorem made_bools (n : Nat) : madeCells (Value.bool false).cells n = (List.replicate n (Value.bool false)).toArray := by
  apply Array.ext'
  apply List.ext_getElem
  · simp [madeCells]
  · intro k h1 h2
    have : k % 1 = 0 := by omega
    simp [madeCells, Value.cells, this]
theorem run_make_bools (w : World) (n : Nat) (l : Int) (hl : l = n) (hn : n ≤ 1000000) : ∃ W, (Instr.makeSlice 67 (.int .i64 l) (.int .i64 l)).run Tryd.prog w = .ok (.slice (some ⟨w.heap.size, 0, none⟩) n n) W ∧ BoolsAt W w.heap.size (List.replicate n false) ∧ Below w.heap.size w W := by
  subst hl
  obtain ⟨i, hi, h0, h1, h2⟩ := info_parts info_bool
  refine ⟨_, run_makeSlice (P := Tryd.prog) w 67 4 i (.bool false) Tryd.underlying67 hi h0 .i64 .i64 n n (by omega) (by omega) (by rw [h1]; simp; omega) (by rw [h2]; simp; omega) (by omega), ?_, (Below.refl _ _).alloc (Nat.le_refl _) _⟩
  unfold BoolsAt
  rw [h1, Int.toNat_natCast, Nat.mul_one, made_bools]
  rw [heap_alloc_new w]
  simp
/-- The state of Match before byte k. -/
structure MatchAt (w : World) (bs : Nat) (es : List Em) (l : Bs) (k m : Nat) (wr : World) : Prop where
  bools : BoolsAt wr m (marks es (l.take k))
  le : w.heap.size ≤ m
  bel : Below w.heap.size w wr
  row : Row wr (some ⟨bs, 0, none⟩) (bytesV l)

set_option maxHeartbeats 4000000 in
set_option maxRecDepth 100000 in
theorem pat_match (pb : Nat) (txt : ByteArray) (es : List Em) (s : ByteArray) (w : World) (hp : PatAt w pb txt es) (he : es.length ≤ 1000) (hok : ∀ e ∈ es, e.Ok) (hs : s.size ≤ 100000) :
    Calls Tryd.prog 10 #[.pointer (some ⟨pb, 0, none⟩), .string s] w fun e w' => e = .returned (.bool (matchF es (toL s))) ∧ Below w.heap.size w w' := by
  obtain ⟨A, c, h0, h1, h2⟩ := hp.cells
  have hpb := hp.lt
  have HP := Lib.hid hp.under
  have HROW := Lib.hid h2
  have HM := Lib.hid (marks_match es hok (toL s))
  have HL := Lib.hid (toL_length s)
  clear hok
  obtain ⟨W1, hmk, hB1, hb1⟩ := run_make_bools w (es.length + 1) ((es.length : Int) + 1) (by omega) (by omega)
  clear hp h2
  have hc0 := hB1.cell 0 (by simp)
  have hf0 := hB1.free 0
  have hlt0 := heap_lt hB1
  have hq : (0 : Int) < ((es.length + 1 : Nat) : Int) := by omega
  have HB2 := Lib.hid (hB1.set 0 true)
  have HBEL := Lib.hid (hb1.setCell (p := ⟨w.heap.size, 0, none⟩) (Nat.le_refl _) (.bool true))
  have HE := Lib.hid (show (List.replicate (es.length + 1) false).set 0 true = true :: List.replicate es.length false by rw [List.replicate_succ]; rfl)
  rw [HE.out] at HB2
  clear HE hB1
  go_enter Tryd.func10, Tryd.ntmps10
  go_wp2_with fail
  clear hmk hc0 hf0 hlt0 hb1
  generalize W1.setCell ⟨w.heap.size, 0, none⟩ (.bool true) = W2 at *
  (with_reducible refine (wm_spread pb w.heap.size txt es _ _ w.heap.size W2 (HP.out.below HBEL.out) HB2.out (Nat.le_refl _) (by simp) he).mono ?_)
  rintro e w3 ⟨rfl, hB3, hg3⟩
  have hbel3 : Below w.heap.size w w3 := HBEL.out.grown hg3 HBEL.out.size (fun k hk => by injection hk with hk; omega)
  have hlt3 := heap_lt hB3
  have hconv := Lib.run_convert_string_bytes (P := Tryd.prog) w3 9 69 5 s Tryd.underlying9 Tryd.underlying69 Tryd.underlying5
  have HB3 := Lib.hid (hB3.below (bytesWorld_below w3 5 s))
  have HB3E := Lib.hid (bytesWorld_below w3 5 s)
  have HBY := Lib.hid (bytesWorld_row w3 5 s)
  clear hB3 hg3 HB2 HBEL
  go_wp2_with fail
  clear hconv
  generalize Lib.bytesWorld w3 5 s = W4 at *
  have hbel4 : Below w.heap.size w W4 := hbel3.trans (HB3E.out.mono hbel3.size)
  have hN4 : w.heap.size ≤ w3.heap.size := hbel3.size
  generalize w3.heap.size = bs at *
  clear HB3E hbel3 h0
  have hHS : (toL s).length = s.size := HL.out
  go_loopw [5, 28] (fun v5 v28 wr => ∃ (k m cap : Nat), k ≤ s.size ∧ v28 = .int .i64 k ∧ v5 = .slice (some ⟨m, 0, none⟩) (es.length + 1) cap ∧ MatchAt w bs es (toL s) k m wr) (fun _ v28 _ => s.size - (intOf v28).toNat)
  case atStart => exact ⟨0, w.heap.size, _, by omega, rfl, rfl, ⟨HB3.out, Nat.le_refl _, hbel4, HBY.out⟩⟩
  case round =>
    obtain ⟨k, m, cap, hk, rfl, rfl, hM⟩ := hrel
    clear HB3 HBY hbel4
    obtain ⟨wo, rfl⟩ : ∃ wo : World, wo = wr := ⟨_, rfl⟩
    have hcp : wo.cell? ⟨pb, 1, none⟩ = some (.slice A es.length c) := (hM.bel.cell (p := ⟨pb, 1, none⟩) hpb).trans h1
    by_cases hlt : k < s.size
    · have hk1 : (0 : Int) ≤ (k : Int) := by omega
      have hk2 : (k : Int) < (s.size : Int) := by omega
      have hkl : k < (toL s).length := by omega
      obtain ⟨bb, off, hA, hcell⟩ := hM.row.cell (k := k) (by simpa using hkl)
      rw [List.getElem_map] at hcell
      simp only [Option.some.injEq, Addr.mk.injEq] at hA
      obtain ⟨rfl, rfl, _⟩ := hA
      rw [Nat.zero_add] at hcell
      have HTK := Lib.hid (List.take_succ_eq_append_getElem hkl)
      generalize (toL s)[k] = ch at *
      have HSN := Lib.hid (marks_snoc es ((toL s).take k) ch)
      rw [← HTK.out] at HSN
      clear HTK
      have HML := Lib.hid (marks_length es ((toL s).take k))
      obtain ⟨W5, hmk, hB5, hb5⟩ := run_make_bools wo (es.length + 1) ((es.length : Int) + 1) (by omega) (by omega)
      have hcp5 : W5.cell? ⟨pb, 1, none⟩ = some (.slice A es.length c) := (hb5.cell (p := ⟨pb, 1, none⟩) (Nat.lt_of_lt_of_le hpb hM.bel.size)).trans hcp
      have HM1 := Lib.hid hM
      clear hM h1 hcp
      have HB5 := Lib.hid hB5
      clear hB5
      generalize hmm : wo.heap.size = m4 at *
      go_wp2_with fail
      clear hmk hcell
      go_loopw [40, 9] (fun v40 _ wx => ∃ j : Nat, j ≤ es.length ∧ v40 = .int .i64 j ∧ BoolsAt wx m4 (nxt es (marks es ((toL s).take k)) ch j) ∧ Below m4 wo wx) (fun v40 _ _ => es.length - (intOf v40).toNat)
      case atStart => exact ⟨0, by omega, rfl, by rw [nxt_zero, HML.out]; exact HB5.out, hb5⟩
      case round =>
        obtain ⟨j, hj, rfl, hB, hbx⟩ := hrel
        clear HB5 hb5 hcp5
        obtain ⟨wi, rfl⟩ : ∃ wi : World, wi = wr := ⟨_, rfl⟩
        by_cases hlj : j < es.length
        · have hj1 : (0 : Int) ≤ (j : Int) := by omega
          have hj2 : (j : Int) < (es.length : Int) := by omega
          have hj3 : (j : Int) < ((es.length + 1 : Nat) : Int) := by omega
          have hj4 : (0 : Int) ≤ (j : Int) + 1 := by omega
          have hj5 : (j : Int) + 1 < ((es.length + 1 : Nat) : Int) := by omega
          have hwi : Below w.heap.size w wi := HM1.out.bel.trans (hbx.mono (by rw [← hmm]; exact HM1.out.bel.size))
          obtain ⟨eb, off, hA, hcell⟩ := (HROW.out.below hwi).em hlj
          subst hA
          have HNS := Lib.hid (nxt_succ es (marks es ((toL s).take k)) ch j)
          rw [nxtStep, emAt_get es j hlj] at HNS
          have hmlt : m < m4 := by rw [← hmm]; exact heap_lt HM1.out.bools
          have hc1 : wi.cell? ⟨m, j, none⟩ = some (.bool ((marks es ((toL s).take k)).getD j false)) := (hbx.cell (p := ⟨m, j, none⟩) hmlt).trans (HM1.out.bools.cell j (by rw [HML.out]; omega))
          have HBX := Lib.hid hbx; have HB := Lib.hid hB
          have hwsz := hwi.size
          have h4lt := heap_lt hB
          clear hbx hB hwi
          generalize es[j] = x at *
          have HNL := Lib.hid (nxt_length es (marks es ((toL s).take k)) ch j)
          rw [HML.out] at HNL
          rcases hb0 : (marks es ((toL s).take k)).getD j false with _ | _
          · rw [hb0] at hc1
            rw [hb0, Bool.not_false, Bool.true_or, if_pos rfl] at HNS
            clear hb0
            go_wp2_with fail
            go_roundw
            case rel => exact ⟨j + 1, by omega, by go_num, by rw [HNS.out]; exact HB.out, HBX.out⟩
            case measure => simp [intOf] <;> omega
          · rw [hb0] at hc1
            rw [hb0, Bool.not_true, Bool.false_or] at HNS
            clear hb0
            go_wp2_with fail
            (with_reducible refine (em_stands x ch _).mono ?_)
            rintro e w1 ⟨rfl, hb1⟩
            have HB1 := Lib.hid (HB.out.below hb1)
            have HBX1 := Lib.hid (HBX.out.trans (hb1.mono (Nat.le_of_lt h4lt)))
            have h4lt1 : m4 < w1.heap.size := Nat.lt_of_lt_of_le h4lt hb1.size
            clear hc1 hcell hb1 HB HBX
            rcases hx : x.chars.contains ch with _ | _
            · rw [hx, Bool.not_false, if_pos rfl] at HNS
              go_wp2_with fail
              go_roundw
              case rel => exact ⟨j + 1, by omega, by go_num, by rw [HNS.out]; exact HB1.out, HBX1.out⟩
              case measure => simp [intOf] <;> omega
            · rw [hx, Bool.not_true, if_neg (by simp)] at HNS
              go_wp2_with fail
              (with_reducible refine (em_isStar x _).mono ?_)
              rintro e w2 ⟨rfl, hb2⟩
              have HB2 := Lib.hid (HB1.out.below hb2)
              have HBX2 := Lib.hid (HBX1.out.trans (hb2.mono (Nat.le_of_lt h4lt1)))
              have h4lt2 : m4 < w2.heap.size := Nat.lt_of_lt_of_le h4lt1 hb2.size
              clear hb2 HB1 HBX1
              rcases hy : x.isStar with _ | _
              · rw [hy, if_neg (by simp)] at HNS
                have hcc := HB2.out.cell (j + 1) (by rw [HNL.out]; omega)
                have hff := HB2.out.free (j + 1)
                go_wp2_with fail
                go_roundw
                case rel => exact ⟨j + 1, by omega, by go_num, by rw [HNS.out]; exact HB2.out.set _ _, HBX2.out.setCell (Nat.le_refl _) _⟩
                case measure => simp [intOf] <;> omega
              · rw [hy, if_pos rfl] at HNS
                have hcc := HB2.out.cell j (by rw [HNL.out]; omega)
                have hff := HB2.out.free j
                go_wp2_with fail
                go_roundw
                case rel => exact ⟨j + 1, by omega, by go_num, by rw [HNS.out]; exact HB2.out.set _ _, HBX2.out.setCell (Nat.le_refl _) _⟩
                case measure => simp [intOf] <;> omega
        · obtain rfl : j = es.length := by omega
          have hwi : Below w.heap.size w wi := HM1.out.bel.trans (hbx.mono (by rw [← hmm]; exact HM1.out.bel.size))
          have hle4 : w.heap.size ≤ m4 := by rw [← hmm]; exact HM1.out.bel.size
          have HNL := Lib.hid (nxt_length es (marks es ((toL s).take k)) ch es.length)
          rw [HML.out] at HNL
          have HB := Lib.hid hB; have HBX := Lib.hid hbx
          have h4lt := heap_lt hB
          clear hB hbx
          go_wp2_with fail
          (with_reducible refine (wm_spread pb m4 txt es _ _ w.heap.size wi (HP.out.below hwi) HB.out hle4 HNL.out he).mono ?_)
          rintro e w6 ⟨rfl, hB6, hg6⟩
          have hbel6 : Below m4 wo w6 := HBX.out.grown hg6 (Nat.le_of_lt h4lt) (fun k hk => by injection hk with hk; omega)
          rw [← HSN.out] at hB6
          have hrow6 : Row w6 (some ⟨bs, 0, none⟩) (bytesV (toL s)) := HM1.out.row.below (by rw [hmm]; exact hbel6)
          have HFIN := Lib.hid (show MatchAt w bs es (toL s) (k + 1) m4 w6 from ⟨hB6, hle4, HM1.out.bel.trans (hbel6.mono hle4), hrow6⟩)
          clear hB6 hg6 hbel6 hrow6 hwi
          go_wp2_with fail
          go_roundw
          case rel => exact ⟨k + 1, m4, _, by omega, by go_num, rfl, HFIN.out⟩
          case measure => simp [intOf] <;> omega
    · obtain rfl : k = s.size := by omega
      have HTK := Lib.hid (show (toL s).take s.size = toL s from by rw [List.take_of_length_le (by omega)])
      have hend := hM.bools.cell es.length (by rw [marks_length]; omega)
      rw [HTK.out, HM.out] at hend
      have hi1 : (0 : Int) ≤ (es.length : Int) := by omega
      have hi2 : (es.length : Int) < ((es.length + 1 : Nat) : Int) := by omega
      go_wp2_with fail
      go_ret
      exact ⟨rfl, hM.bel⟩
end Go.Proofs.YtcknomaaikeebaaDoor
