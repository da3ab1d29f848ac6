/- Walks over the methods of field.parser: word. -/
import Derived.Test.YtaigbplfbfaghaaParse2
import Derived.Deep.LoopGhost
namespace Go.Proofs.Ytaigbplfbfaghaa
set_option linter.unusedSimpArgs false
set_option linter.unusedVariables false
open Go.RowKit

set_option maxHeartbeats 4000000 in
set_option maxRecDepth 100000 in
theorem prs_word_bad (p : Nat) (s : ByteArray) (st : PSt) (w : World) (h : PAt w p s st) (he : st.e ≠ 0) :
    Calls Try.prog 85 #[.pointer (some ⟨p, 0, none⟩)] w fun e w' => e = .returned (.bool false) ∧ PLeft w w' p s st := by
  obtain ⟨hc0, hc1, hc2, hc3, hc5⟩ := h.cells
  have he' : (st.e == 0) = false := by simpa using he
  have he2 : (st.e != 0) = true := by simpa using he
  clear he
  go_enter Try.func85, Try.ntmps85
  go_wp2_with fail
  go_loopg [5] 1 (fun _ _ wr => PAt wr p s st ∧ Below p w wr)
  case atStart => exact ⟨h, Below.refl _ _⟩
  case round =>
    obtain ⟨hP, hB⟩ := hrel
    clear hc0 hc1 hc2 hc3 hc5
    obtain ⟨hc0, hc1, hc2, hc3, hc5⟩ := hP.cells
    go_wp2_with fail
    go_quiet (fail)
    go_wp2_with fail
    go_quiet (fail)
    go_wp2_with fail
    go_ret
    exact ⟨rfl, (hP.drewN _).drewN _, below_drewN (below_drewN hB _) _⟩

theorem setLast_snoc (dl : List Fd) (f : Fd) (b : List UInt8) : setLast (dl ++ [f]) b = dl ++ [(f.1, b)] := by simp [setLast]
theorem lastBody_snoc (dl : List Fd) (f : Fd) : lastBody (dl ++ [f]) = f.2 := by simp [lastBody]
theorem fldsV_set (dl : List Fd) (f : Fd) (b : ByteArray) : fldsV (dl ++ [(f.1, toL b)]) = (fldsV (dl ++ [f])).set (((dl ++ [f]).length - 1) * 2 + 1) (.string b) := by
  have h := fldsV_length dl
  simp only [fldsV, List.flatMap_append, List.flatMap_cons, List.flatMap_nil, List.append_nil] at h ⊢
  rw [List.set_append_right _ _ (by rw [h]; simp)]
  rw [h, show ((dl ++ [f]).length - 1) * 2 + 1 - dl.length * 2 = 1 from by simp]
  simp [ofL_toL]

theorem PAt.last {w : World} {p : Nat} {s : ByteArray} {st : PSt} (h : PAt w p s st) (hne : st.fields ≠ []) : ∃ g c, w.cell? ⟨p, 4, none⟩ = some (.slice (some ⟨g, 0, none⟩) st.fields.length c) ∧
    w.cell? ⟨g, (st.fields.length - 1) * 2 + 1, none⟩ = some (.string (ofL (lastBody st.fields))) ∧ w.frozen? ⟨g, (st.fields.length - 1) * 2 + 1, none⟩ = false ∧ p < g ∧ g < w.heap.size ∧
    (∀ b : ByteArray, PAt (w.setCell ⟨g, (st.fields.length - 1) * 2 + 1, none⟩ (.string b)) p s { st with fields := setLast st.fields (toL b) }) := by
  obtain ⟨v, hh, hown⟩ := h
  have hl : 0 < st.fields.length := List.length_pos_iff.2 hne
  rcases own_form hown with ⟨rfl, h0⟩ | ⟨g, cap, rfl, hg, hlt, hcap, hc⟩
  · omega
  · have hk : st.fields.length - 1 < st.fields.length := by omega
    obtain ⟨_, h2⟩ := fldsV_at st.fields (st.fields.length - 1) hk
    have hlast : st.fields.getLast? = some (st.fields[st.fields.length - 1]) := by rw [List.getLast?_eq_getElem?, List.getElem?_eq_getElem hk]
    refine ⟨g, cap, by rw [Lib.cell_of_heap hh]; rfl, ?_, hown.frozenAt _, by omega, hlt, fun b => ?_⟩
    · have := hc _ _ h2
      rw [this]; simp [lastBody, hlast]
    · refine ⟨.slice (some ⟨g, 0, none⟩) st.fields.length cap, ?_, ?_⟩
      · rw [Below.heap_setCell _ _ _ _ (by simp; omega)]; exact hh
      · have hst := hown.stored ((st.fields.length - 1) * 2 + 1) (.string b)
        have hlen : (setLast st.fields (toL b)).length = st.fields.length := by simp [setLast, hlast]; omega
        show World.ownsRow _ _ _ _ _ (setLast st.fields (toL b)).length _
        rw [hlen]
        have hset : fldsV (setLast st.fields (toL b)) = (fldsV st.fields).set ((st.fields.length - 1) * 2 + 1) (.string b) := by
          obtain ⟨dl, f, hdf⟩ : ∃ dl f, st.fields = dl ++ [f] := by
            rcases List.eq_nil_or_concat st.fields with h | ⟨dl, f, h⟩
            · exact absurd h hne
            · exact ⟨dl, f, by simpa using h⟩
          rw [hdf, setLast_snoc, fldsV_set]
        rw [hset]
        exact hst.1


theorem setCell_twice (w : World) (a : Addr) (v v' : Value) : (w.setCell a v).setCell a v' = w.setCell a v' := by
  unfold World.setCell
  congr 1
  apply Array.ext_getElem?
  intro i
  simp only [Array.getElem?_modify]
  split
  · cases w.heap[i]? with
    | none => rfl
    | some o => cases o <;> simp; split <;> simp [Array.setIfInBounds_setIfInBounds]
  · rfl
theorem toL_app (a b : ByteArray) : toL (a ++ b) = toL a ++ toL b := by simp [toL]
theorem toL_sp : toL ⟨#[32]⟩ = [32] := rfl
theorem toL_cons {b : ByteArray} (h : ¬ b.size = 0) : toL b ≠ [] := fun e => h (by rw [← toL_length, e]; rfl)

set_option maxHeartbeats 8000000 in
set_option maxRecDepth 100000 in
theorem prs_word_ok (p : Nat) (s : ByteArray) (st : PSt) (w : World) (h : PAt w p s st) (he : st.e = 0) (hs : s.size ≤ 1000000) (hat : st.at_ ≤ st.to) (hto : st.to ≤ s.size) (hne : st.fields ≠ []) (hn64 : st.fields.length ≤ 64) (hlb : (lastBody st.fields).length ≤ 3000000) :
    Calls Try.prog 85 #[.pointer (some ⟨p, 0, none⟩)] w fun e w' => e = .returned (.bool (pWord (toL s) st).1) ∧ PLeft w w' p s (pWord (toL s) st).2 := by
  have hw := Lib.hid (show pWord (toL s) st = _ from (by unfold pWord; rw [if_neg (by simp [he])]))
  have he' : (st.e == 0) = true := by simpa using he
  have he2 : (st.e != 0) = false := by simpa using he
  have HE := Lib.hid he
  have HL := Lib.hid (toL_length s)
  clear he
  go_enter Try.func85, Try.ntmps85
  go_wp2_with fail
  go_loopg [5] (st.to - st.at_) (fun g _ wr => ∃ a, g = st.to - a ∧ a ≤ st.to ∧ skipTo isBlank (toL s) st.at_ st.to = skipTo isBlank (toL s) a st.to ∧ PAt wr p s { st with at_ := a } ∧ Below p w wr)
  case atStart => exact ⟨st.at_, rfl, hat, rfl, h, Below.refl _ _⟩
  case round =>
    obtain ⟨a, rfl, ha, hsk, hP, hB⟩ := hrel
    have HSK := Lib.hid hsk; clear hsk
    obtain ⟨hc0, hc1, hc2, hc3, hc5⟩ := hP.cells
    have hf3 := hP.free 3
    by_cases hlt : a < st.to
    · have hlts : a < s.size := by omega
      have l1 : decide ((a : Int) < (st.to : Int)) = true := by simp; omega
      have l2 : (a : Int) < (st.to : Int) := by omega
      have l3 : (0 : Int) ≤ (a : Int) := by omega
      have l4 : (a : Int) < (s.size : Int) := by omega
      rcases hb : isBlank (num s[a]) with _ | _
      · have HST := Lib.hid (HSK.out.trans (skipTo_stop isBlank (toL s) a st.to hlt (by rw [HL.out]; exact hto) (by rw [toL_getElem _ _ hlts]; exact hb)))
        go_wp2_with fail
        go_quiet ((go_at_call 75; exact quiet_left' (asc_isBlank _ _)))
        have hP1 := hP.drewN nq
        have hB1 := below_drewN hB nq
        obtain ⟨w1, hw1⟩ : ∃ w1, w1 = wr.drewN nq := ⟨_, rfl⟩
        rw [← hw1] at hP1 hB1 ⊢
        clear hw1 hP hB hc0 hc1 hc2 hc3 hc5 hf3
        obtain ⟨hc0, hc1, hc2, hc3, hc5⟩ := hP1.cells
        have l5 : ((a : Int) == (st.to : Int)) = false := beq_eq_false_iff_ne.2 (by omega)
        go_wp2_with fail
        go_quiet (fail)
        have hP2 := hP1.drewN nq
        have hB2 := below_drewN hB1 nq
        obtain ⟨w2, hw2⟩ : ∃ w2, w2 = w1.drewN nq := ⟨_, rfl⟩
        rw [← hw2] at hP2 hB2 ⊢
        clear hw2 hP1 hB1 hc0 hc1 hc2 hc3 hc5
        obtain ⟨hc0, hc1, hc2, hc3, hc5⟩ := hP2.cells
        rw [HST.out] at hw
        have HW2 := Lib.hid (hw.out.trans (if_neg (by omega)))
        clear hw HSK HST
        go_wp2_with fail
        go_loop [3] (fun v => ∃ k : Nat, a ≤ k ∧ k ≤ st.to ∧ v = .int .i64 k ∧ skipTo (fun c => !isBlank c) (toL s) a st.to = skipTo (fun c => !isBlank c) (toL s) k st.to) (fun v => st.to - (intOf v).toNat)
        case atStart => exact ⟨a, Nat.le_refl _, ha, rfl, rfl⟩
        case round =>
          obtain ⟨k, hak, hk, rfl, hsk⟩ := hrel
          have HSK := Lib.hid hsk; clear hsk
          by_cases hkt : k < st.to
          · have hks : k < s.size := by omega
            have m1 : decide ((k : Int) < (st.to : Int)) = true := by simp; omega
            have m4 : (k : Int) < (s.size : Int) := by omega
            rcases hbk : isBlank (num s[k]) with _ | _
            · have HS2 := Lib.hid (HSK.out.trans (skipTo_step (fun c => !isBlank c) (toL s) k st.to hkt (by rw [HL.out]; exact hto) (by rw [toL_getElem _ _ hks]; simp [hbk])))
              go_wp2_with (go_at_call 75; refine (asc_isBlank _ _).mono ?_; rintro e w' ⟨rfl, rfl⟩)
              go_round
              case rel => exact ⟨k + 1, by omega, by omega, by go_num, HS2.out⟩
              case measure => simp [intOf] <;> omega
            · have HS2 := Lib.hid (HSK.out.trans (skipTo_stop (fun c => !isBlank c) (toL s) k st.to hkt (by rw [HL.out]; exact hto) (by rw [toL_getElem _ _ hks]; simp [hbk])))
              rw [HS2.out] at HW2
              by_cases h9 : 900 < k - a
              · have h9' : decide ((900 : Int) < (k : Int) - (a : Int)) = true := by simp; omega
                have HW3 := Lib.hid (HW2.out.trans (if_pos h9))
                go_wp2_with (go_at_call 75; refine (asc_isBlank _ _).mono ?_; rintro e w' ⟨rfl, rfl⟩)
                (with_reducible refine (prs_fail p s _ _ _ _ hP2 (by omega)).mono ?_)
                rintro e w3 ⟨rfl, hl⟩
                rw [Int.toNat_natCast] at hl
                go_wp2_with fail
                go_ret
                rw [HW3.out]
                exact ⟨rfl, hl.at_, hB2.trans hl.below⟩
              · have h9' : decide ((900 : Int) < (k : Int) - (a : Int)) = false := by simp; omega
                have HW3 := Lib.hid (HW2.out.trans (if_neg h9))
                obtain ⟨g, c, hd4, hdb, hdf, hpg, hgl, hput⟩ := hP2.last hne
                have hl0 : 0 < st.fields.length := List.length_pos_iff.2 hne
                have n1 : (0 : Int) ≤ (st.fields.length : Int) - 1 := by omega
                have n2 : (st.fields.length : Int) - 1 < (st.fields.length : Int) := by omega
                have n3 : ((st.fields.length : Int) - 1).toNat = st.fields.length - 1 := by omega
                have n4 : (1 : Int) ≤ (st.fields.length : Int) := by omega
                have n5 : IntKind.i64.wrap ((st.fields.length : Int) - 1) = (st.fields.length : Int) - 1 := IntWalk.i64_in _ (by omega)
                have HPUT := Lib.hid hput
                clear hput
                simp only at hd4 hdb hdf
                go_wp2_with (go_at_call 75; refine (asc_isBlank _ _).mono ?_; rintro e w' ⟨rfl, rfl⟩)
                go_quiet (fail)
                have hP3 := hP2.drewN nq
                have hB3 := below_drewN hB2 nq
                have hd4' : (w2.drewN nq).cell? ⟨p, 4, none⟩ = some (.slice (some ⟨g, 0, none⟩) st.fields.length c) := hd4
                have hdb' : (w2.drewN nq).cell? ⟨g, (st.fields.length - 1) * 2 + 1, none⟩ = some (.string (ofL (lastBody st.fields))) := hdb
                have hdf' : (w2.drewN nq).frozen? ⟨g, (st.fields.length - 1) * 2 + 1, none⟩ = false := hdf
                have HPUT' := Lib.hid (show ∀ b : ByteArray, PAt ((w2.drewN nq).setCell ⟨g, (st.fields.length - 1) * 2 + 1, none⟩ (.string b)) p s { st with at_ := a, fields := setLast st.fields (toL b) } from fun b => (HPUT.out b).drewN nq)
                generalize w2.drewN nq = w3 at hP3 hB3 hd4' hdb' hdf' HPUT' ⊢
                clear hd4 hdb hdf HPUT hc0 hc1 hc2 hc3 hc5 hP2 hB2 n1 n2 n3 n4 n5
                obtain ⟨hc0, hc1, hc2, hc3, hc5⟩ := hP3.cells
                have hf3 := hP3.free 3
                simp only at hc0 hc1 hc2 hc3 hc5
                obtain ⟨b, hbb⟩ : ∃ b, ofL (lastBody st.fields) = b := ⟨_, rfl⟩
                have HBB := Lib.hid (show lastBody st.fields = toL b by rw [← hbb, toL_ofL])
                rw [hbb] at hdb'
                rw [HBB.out, toL_length] at hlb
                clear hbb
                have hpg' : p ≠ g := by omega
                have hxs := extract_size s a k (by omega)
                have o1 : (a : Int) ≤ (k : Int) := by omega
                have o2 : (k : Int) ≤ (s.size : Int) := by omega
                by_cases hb0 : b.size = 0
                · have hbe : b.toList = [] := toList_nil hb0
                  have o3 : b.size + (s.extract a k).size ≤ 9223372036854775807 := by omega
                  go_wp2_with fail
                  go_region
                  have hP4 : PAt ((w3.setCell ⟨g, (st.fields.length - 1) * 2 + 1, none⟩ (.string (b ++ s.extract a k))).drew) p s { st with at_ := a, fields := setLast st.fields (toL (b ++ s.extract a k)) } := (HPUT'.out _).drew
                  have hB4 : Below p w ((w3.setCell ⟨g, (st.fields.length - 1) * 2 + 1, none⟩ (.string (b ++ s.extract a k))).drew) := (hB3.setCell (p := ⟨g, (st.fields.length - 1) * 2 + 1, none⟩) (Nat.le_of_lt hpg) _).drew
                  have HTX := Lib.hid (show toL (b ++ s.extract a k) = addWord (lastBody st.fields) (cutL (toL s) a k) by
                    rw [HBB.out, ← extract_toL]; simp [addWord, toL_nil hb0, toL_app])
                  generalize (w3.setCell ⟨g, (st.fields.length - 1) * 2 + 1, none⟩ (.string (b ++ s.extract a k))).drew = w4 at hP4 hB4 ⊢
                  clear hc0 hc1 hc2 hc3 hc5 hf3 hd4' hdb' hdf'
                  obtain ⟨hc0, hc1, hc2, hc3, hc5⟩ := hP4.cells
                  have hf3 := hP4.free 3
                  simp only at hc0 hc1 hc2 hc3 hc5
                  go_wp2_with fail
                  go_ret
                  rw [HW3.out]
                  refine ⟨rfl, ?_, hB4.setCell (p := ⟨p, 3, none⟩) (Nat.le_refl _) _⟩
                  rw [HTX.out] at hP4
                  exact hP4.set rfl (fun _ => rfl)
                · have hbe : b.toList.isEmpty = false := toList_cons hb0
                  have o3 : b.size + 1 ≤ 9223372036854775807 := by omega
                  have o4 : b.size + 1 + (s.extract a k).size ≤ 9223372036854775807 := by omega
                  go_wp2_with fail
                  go_region
                  have hP4 : PAt (((w3.setCell ⟨g, (st.fields.length - 1) * 2 + 1, none⟩ (.string (b ++ ⟨#[32]⟩))).setCell ⟨g, (st.fields.length - 1) * 2 + 1, none⟩ (.string (b ++ ⟨#[32]⟩ ++ s.extract a k))).drew) p s { st with at_ := a, fields := setLast st.fields (toL (b ++ ⟨#[32]⟩ ++ s.extract a k)) } := by
                    rw [setCell_twice]; exact (HPUT'.out _).drew
                  have hB4 : Below p w (((w3.setCell ⟨g, (st.fields.length - 1) * 2 + 1, none⟩ (.string (b ++ ⟨#[32]⟩))).setCell ⟨g, (st.fields.length - 1) * 2 + 1, none⟩ (.string (b ++ ⟨#[32]⟩ ++ s.extract a k))).drew) := ((hB3.setCell (p := ⟨g, (st.fields.length - 1) * 2 + 1, none⟩) (Nat.le_of_lt hpg) _).setCell (p := ⟨g, (st.fields.length - 1) * 2 + 1, none⟩) (Nat.le_of_lt hpg) _).drew
                  have HTX := Lib.hid (show toL (b ++ ⟨#[32]⟩ ++ s.extract a k) = addWord (lastBody st.fields) (cutL (toL s) a k) by
                    rw [HBB.out, ← extract_toL]; simp [addWord, toL_cons hb0, toL_app, toL_sp])
                  generalize ((w3.setCell ⟨g, (st.fields.length - 1) * 2 + 1, none⟩ (.string (b ++ ⟨#[32]⟩))).setCell ⟨g, (st.fields.length - 1) * 2 + 1, none⟩ (.string (b ++ ⟨#[32]⟩ ++ s.extract a k))).drew = w4 at hP4 hB4 ⊢
                  clear hc0 hc1 hc2 hc3 hc5 hf3 hd4' hdb' hdf'
                  obtain ⟨hc0, hc1, hc2, hc3, hc5⟩ := hP4.cells
                  have hf3 := hP4.free 3
                  simp only at hc0 hc1 hc2 hc3 hc5
                  go_wp2_with fail
                  go_ret
                  rw [HW3.out]
                  refine ⟨rfl, ?_, hB4.setCell (p := ⟨p, 3, none⟩) (Nat.le_refl _) _⟩
                  rw [HTX.out] at hP4
                  exact hP4.set rfl (fun _ => rfl)
          · have hEk : k = st.to := by omega
            have m1 : decide ((k : Int) < (st.to : Int)) = false := by simp; omega
            have HS2 := Lib.hid (HSK.out.trans (skipTo_end (fun c => !isBlank c) (toL s) k st.to (by omega)))
            clear hEk
            rw [HS2.out] at HW2
            by_cases h9 : 900 < k - a
            · have h9' : decide ((900 : Int) < (k : Int) - (a : Int)) = true := by simp; omega
              have HW3 := Lib.hid (HW2.out.trans (if_pos h9))
              go_wp2_with fail
              (with_reducible refine (prs_fail p s _ _ _ _ hP2 (by omega)).mono ?_)
              rintro e w3 ⟨rfl, hl⟩
              rw [Int.toNat_natCast] at hl
              go_wp2_with fail
              go_ret
              rw [HW3.out]
              exact ⟨rfl, hl.at_, hB2.trans hl.below⟩
            · have h9' : decide ((900 : Int) < (k : Int) - (a : Int)) = false := by simp; omega
              have HW3 := Lib.hid (HW2.out.trans (if_neg h9))
              obtain ⟨g, c, hd4, hdb, hdf, hpg, hgl, hput⟩ := hP2.last hne
              have hl0 : 0 < st.fields.length := List.length_pos_iff.2 hne
              have n1 : (0 : Int) ≤ (st.fields.length : Int) - 1 := by omega
              have n2 : (st.fields.length : Int) - 1 < (st.fields.length : Int) := by omega
              have n3 : ((st.fields.length : Int) - 1).toNat = st.fields.length - 1 := by omega
              have n4 : (1 : Int) ≤ (st.fields.length : Int) := by omega
              have n5 : IntKind.i64.wrap ((st.fields.length : Int) - 1) = (st.fields.length : Int) - 1 := IntWalk.i64_in _ (by omega)
              have HPUT := Lib.hid hput
              clear hput
              simp only at hd4 hdb hdf
              go_wp2_with fail
              go_quiet (fail)
              have hP3 := hP2.drewN nq
              have hB3 := below_drewN hB2 nq
              have hd4' : (w2.drewN nq).cell? ⟨p, 4, none⟩ = some (.slice (some ⟨g, 0, none⟩) st.fields.length c) := hd4
              have hdb' : (w2.drewN nq).cell? ⟨g, (st.fields.length - 1) * 2 + 1, none⟩ = some (.string (ofL (lastBody st.fields))) := hdb
              have hdf' : (w2.drewN nq).frozen? ⟨g, (st.fields.length - 1) * 2 + 1, none⟩ = false := hdf
              have HPUT' := Lib.hid (show ∀ b : ByteArray, PAt ((w2.drewN nq).setCell ⟨g, (st.fields.length - 1) * 2 + 1, none⟩ (.string b)) p s { st with at_ := a, fields := setLast st.fields (toL b) } from fun b => (HPUT.out b).drewN nq)
              generalize w2.drewN nq = w3 at hP3 hB3 hd4' hdb' hdf' HPUT' ⊢
              clear hd4 hdb hdf HPUT hc0 hc1 hc2 hc3 hc5 hP2 hB2 n1 n2 n3 n4 n5
              obtain ⟨hc0, hc1, hc2, hc3, hc5⟩ := hP3.cells
              have hf3 := hP3.free 3
              simp only at hc0 hc1 hc2 hc3 hc5
              obtain ⟨b, hbb⟩ : ∃ b, ofL (lastBody st.fields) = b := ⟨_, rfl⟩
              have HBB := Lib.hid (show lastBody st.fields = toL b by rw [← hbb, toL_ofL])
              rw [hbb] at hdb'
              rw [HBB.out, toL_length] at hlb
              clear hbb
              have hpg' : p ≠ g := by omega
              have hxs := extract_size s a k (by omega)
              have o1 : (a : Int) ≤ (k : Int) := by omega
              have o2 : (k : Int) ≤ (s.size : Int) := by omega
              by_cases hb0 : b.size = 0
              · have hbe : b.toList = [] := toList_nil hb0
                have o3 : b.size + (s.extract a k).size ≤ 9223372036854775807 := by omega
                go_wp2_with fail
                go_region
                have hP4 : PAt ((w3.setCell ⟨g, (st.fields.length - 1) * 2 + 1, none⟩ (.string (b ++ s.extract a k))).drew) p s { st with at_ := a, fields := setLast st.fields (toL (b ++ s.extract a k)) } := (HPUT'.out _).drew
                have hB4 : Below p w ((w3.setCell ⟨g, (st.fields.length - 1) * 2 + 1, none⟩ (.string (b ++ s.extract a k))).drew) := (hB3.setCell (p := ⟨g, (st.fields.length - 1) * 2 + 1, none⟩) (Nat.le_of_lt hpg) _).drew
                have HTX := Lib.hid (show toL (b ++ s.extract a k) = addWord (lastBody st.fields) (cutL (toL s) a k) by
                  rw [HBB.out, ← extract_toL]; simp [addWord, toL_nil hb0, toL_app])
                generalize (w3.setCell ⟨g, (st.fields.length - 1) * 2 + 1, none⟩ (.string (b ++ s.extract a k))).drew = w4 at hP4 hB4 ⊢
                clear hc0 hc1 hc2 hc3 hc5 hf3 hd4' hdb' hdf'
                obtain ⟨hc0, hc1, hc2, hc3, hc5⟩ := hP4.cells
                have hf3 := hP4.free 3
                simp only at hc0 hc1 hc2 hc3 hc5
                go_wp2_with fail
                go_ret
                rw [HW3.out]
                refine ⟨rfl, ?_, hB4.setCell (p := ⟨p, 3, none⟩) (Nat.le_refl _) _⟩
                rw [HTX.out] at hP4
                exact hP4.set rfl (fun _ => rfl)
              · have hbe : b.toList.isEmpty = false := toList_cons hb0
                have o3 : b.size + 1 ≤ 9223372036854775807 := by omega
                have o4 : b.size + 1 + (s.extract a k).size ≤ 9223372036854775807 := by omega
                go_wp2_with fail
                go_region
                have hP4 : PAt (((w3.setCell ⟨g, (st.fields.length - 1) * 2 + 1, none⟩ (.string (b ++ ⟨#[32]⟩))).setCell ⟨g, (st.fields.length - 1) * 2 + 1, none⟩ (.string (b ++ ⟨#[32]⟩ ++ s.extract a k))).drew) p s { st with at_ := a, fields := setLast st.fields (toL (b ++ ⟨#[32]⟩ ++ s.extract a k)) } := by
                  rw [setCell_twice]; exact (HPUT'.out _).drew
                have hB4 : Below p w (((w3.setCell ⟨g, (st.fields.length - 1) * 2 + 1, none⟩ (.string (b ++ ⟨#[32]⟩))).setCell ⟨g, (st.fields.length - 1) * 2 + 1, none⟩ (.string (b ++ ⟨#[32]⟩ ++ s.extract a k))).drew) := ((hB3.setCell (p := ⟨g, (st.fields.length - 1) * 2 + 1, none⟩) (Nat.le_of_lt hpg) _).setCell (p := ⟨g, (st.fields.length - 1) * 2 + 1, none⟩) (Nat.le_of_lt hpg) _).drew
                have HTX := Lib.hid (show toL (b ++ ⟨#[32]⟩ ++ s.extract a k) = addWord (lastBody st.fields) (cutL (toL s) a k) by
                  rw [HBB.out, ← extract_toL]; simp [addWord, toL_cons hb0, toL_app, toL_sp])
                generalize ((w3.setCell ⟨g, (st.fields.length - 1) * 2 + 1, none⟩ (.string (b ++ ⟨#[32]⟩))).setCell ⟨g, (st.fields.length - 1) * 2 + 1, none⟩ (.string (b ++ ⟨#[32]⟩ ++ s.extract a k))).drew = w4 at hP4 hB4 ⊢
                clear hc0 hc1 hc2 hc3 hc5 hf3 hd4' hdb' hdf'
                obtain ⟨hc0, hc1, hc2, hc3, hc5⟩ := hP4.cells
                have hf3 := hP4.free 3
                simp only at hc0 hc1 hc2 hc3 hc5
                go_wp2_with fail
                go_ret
                rw [HW3.out]
                refine ⟨rfl, ?_, hB4.setCell (p := ⟨p, 3, none⟩) (Nat.le_refl _) _⟩
                rw [HTX.out] at hP4
                exact hP4.set rfl (fun _ => rfl)
      · have HST := Lib.hid (HSK.out.trans (skipTo_step isBlank (toL s) a st.to hlt (by rw [HL.out]; exact hto) (by rw [toL_getElem _ _ hlts]; exact hb)))
        go_wp2_with fail
        go_quiet ((go_at_call 75; exact quiet_left' (asc_isBlank _ _)))
        go_wp2_with fail
        go_roundg (st.to - (a + 1))
        case measure => omega
        case rel =>
          refine ⟨a + 1, rfl, by omega, HST.out, (hP.drewN nq).set rfl (fun _ => ?_), (below_drewN hB nq).setCell (p := ⟨p, 3, none⟩) (Nat.le_refl _) _⟩
          simp
    · have hEq : a = st.to := by omega
      subst hEq
      have l1 : decide ((st.to : Int) < (st.to : Int)) = false := by simp
      have l5 : ((st.to : Int) == (st.to : Int)) = true := by simp
      have HST := Lib.hid (HSK.out.trans (skipTo_end isBlank (toL s) st.to st.to (Nat.le_refl _)))
      have HW2 := Lib.hid (hw.out.trans (if_pos HST.out))
      go_wp2_with fail
      go_quiet (fail)
      go_wp2_with fail
      go_quiet (fail)
      go_wp2_with fail
      go_ret
      rw [HW2.out]
      exact ⟨rfl, (hP.drewN _).drewN _, below_drewN (below_drewN hB _) _⟩

end Go.Proofs.Ytaigbplfbfaghaa
