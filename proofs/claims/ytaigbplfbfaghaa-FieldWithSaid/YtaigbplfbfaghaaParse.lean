/- Walks over the methods of field.parser. -/
import Derived.Test.YtaigbplfbfaghaaPrint
import Derived.Test.YtaigbplfbfaghaaParseP
import Derived.Lib.IndexBytes
namespace Go.Proofs.Ytaigbplfbfaghaa
set_option linter.unusedSimpArgs false
set_option linter.unusedVariables false
open Go.RowKit

/-- The parser's struct in block p, its text and its state. -/
structure PAt (w : World) (p : Nat) (s : ByteArray) (st : PSt) : Prop where
  ex : ∃ v, w.heap[p]? = some (.cells #[.string s, .int .i64 st.frm, .int .i64 st.to, .int .i64 st.at_, v, .int .i64 st.e] 79 (0, 0)) ∧
    w.ownsRow (p + 1) 28 2 v st.fields.length (fldsV st.fields)

/-- What a method leaves: the new state; nothing below the parser's block has turned. -/
structure PLeft (w w' : World) (p : Nat) (s : ByteArray) (st : PSt) : Prop where
  at_ : PAt w' p s st
  below : Below p w w'

set_option maxHeartbeats 1000000 in
set_option maxRecDepth 100000 in
theorem prs_fail (p : Nat) (s : ByteArray) (st : PSt) (a : Int) (c : Int) (w : World) (h : PAt w p s st) (ha : 0 ≤ a) :
    Calls Try.prog 83 #[.pointer (some ⟨p, 0, none⟩), .int .i64 a, .int .i64 c] w fun e w' => e = .returned (.tuple #[]) ∧ PLeft w w' p s (pFail st a.toNat c) := by
  obtain ⟨a, rfl⟩ := Int.eq_ofNat_of_zero_le ha
  rw [Int.toNat_natCast]
  clear ha
  obtain ⟨v, hh, hown⟩ := h
  have hc5 : w.cell? ⟨p, 5, none⟩ = some (.int .i64 st.e) := by rw [Lib.cell_of_heap hh]; rfl
  have hc3 : w.cell? ⟨p, 3, none⟩ = some (.int .i64 st.at_) := by rw [Lib.cell_of_heap hh]; rfl
  have hf5 : w.frozen? ⟨p, 5, none⟩ = false := Lib.frozen_of_heap hh 5
  have hf3 : w.frozen? ⟨p, 3, none⟩ = false := Lib.frozen_of_heap hh 3
  have HH := Lib.hid hh; clear hh
  by_cases he : st.e = 0
  · have he' : (st.e == 0) = true := by simpa using he
    have HE := Lib.hid (show pFail st a c = { st with at_ := a, e := c } by simp [pFail, he])
    clear he
    go_enter Try.func83, Try.ntmps83
    go_wp2_with fail
    go_end0
    refine ⟨rfl, ⟨v, ?_, ?_⟩, ?_⟩
    · rw [HE.out]
      exact heap_set (heap_set HH.out _) _
    · rw [HE.out]
      exact ownsRow_setCell_below (ownsRow_setCell_below hown (by simp) _) (by simp) _
    · exact ((Below.refl _ _).setCell (p := ⟨p, 3, none⟩) (Nat.le_refl _) _).setCell (p := ⟨p, 5, none⟩) (Nat.le_refl _) _
  · have he' : (st.e == 0) = false := by simpa using he
    have HE := Lib.hid (show pFail st a c = st by simp [pFail, he])
    clear he
    go_enter Try.func83, Try.ntmps83
    go_wp2_with fail
    go_end0
    rw [HE.out]
    exact ⟨rfl, ⟨v, HH.out, hown⟩, Below.refl _ _⟩


theorem indexByte_findI_aux (c : UInt8) (l : List UInt8) : ∀ k : Nat, findI (fun x => x == c) l k = if Lib.indexByte l c = -1 then -1 else Lib.indexByte l c + k := by
  induction l with
  | nil => intro k; simp [findI, Lib.indexByte]
  | cons x r ih =>
    intro k
    have hge := Lib.indexByte_ge r c
    by_cases hx : x = c
    · simp [findI, Lib.indexByte, hx]
    · simp only [findI, Lib.indexByte, beq_iff_eq, if_neg hx, ih (k + 1)]
      split
      · simp
      · rw [if_neg (by omega)]; omega
theorem indexByte_findI (l : List UInt8) (c : UInt8) : Lib.indexByte l c = findI (fun x => x == c) l 0 := by
  rw [indexByte_findI_aux]; split <;> simp_all

theorem idx_call (s : ByteArray) (c : Int) (w : World) :
    Calls Try.prog 82 #[.string s, .int .u8 c] w fun e w' => e = .returned (.int .i64 (findI (fun x => x == c.toNat.toUInt8) (toL s) 0)) ∧ w = w' :=
  (Try.strings_IndexByte s c w).mono fun _ _ ⟨h1, h2⟩ => ⟨by rw [h1, indexByte_findI]; rfl, h2.symm⟩

set_option maxHeartbeats 400000 in
theorem prs_forbidden (c : Int) (w : World) :
    Calls Try.prog 84 #[.int .u8 c] w fun e w' => e = .returned (.bool (forbidden c)) ∧ w = w' := by
  rcases h : isVisible c with _ | _
  all_goals
    go_enter Try.func84, Try.ntmps84
    go_wp2_with (first | (go_at_call 79; refine (asc_isVisible _ _).mono ?_; rintro e w' ⟨rfl, rfl⟩) | (go_at_call 75; refine (asc_isBlank _ _).mono ?_; rintro e w' ⟨rfl, rfl⟩))
    go_ret
    exact ⟨ret_bool (by simp [forbidden, h]), rfl⟩
theorem class_forbidden : ClassIs 84 forbidden := ⟨Try.call84, prs_forbidden⟩


theorem line_idx (s : ByteArray) (frm : Nat) : findI (fun x => x == ((10 : Int).toNat.toUInt8)) (toL (s.extract frm s.size)) 0 = lineLen (toL s) frm := by
  have : toL (s.extract frm s.size) = (toL s).drop frm := Lib.extract_to_end s frm
  rw [this]; rfl

theorem PAt.set {w : World} {p : Nat} {s : ByteArray} {st st' : PSt} {i : Nat} {u : Value} (h : PAt w p s st) (hf : st'.fields = st.fields)
    (hc : ∀ v, (#[.string s, .int .i64 st.frm, .int .i64 st.to, .int .i64 st.at_, v, .int .i64 st.e] : Array Value).setIfInBounds i u = #[.string s, .int .i64 st'.frm, .int .i64 st'.to, .int .i64 st'.at_, v, .int .i64 st'.e]) :
    PAt (w.setCell ⟨p, i, none⟩ u) p s st' := by
  obtain ⟨v, hh, hown⟩ := h
  refine ⟨v, ?_, ?_⟩
  · rw [← hc v]; exact heap_set hh _
  · rw [hf]; exact ownsRow_setCell_below hown (by simp) _
theorem PAt.cells {w : World} {p : Nat} {s : ByteArray} {st : PSt} (h : PAt w p s st) :
    w.cell? ⟨p, 0, none⟩ = some (.string s) ∧ w.cell? ⟨p, 1, none⟩ = some (.int .i64 st.frm) ∧ w.cell? ⟨p, 2, none⟩ = some (.int .i64 st.to) ∧ w.cell? ⟨p, 3, none⟩ = some (.int .i64 st.at_) ∧ w.cell? ⟨p, 5, none⟩ = some (.int .i64 st.e) := by
  obtain ⟨v, hh, _⟩ := h
  refine ⟨?_, ?_, ?_, ?_, ?_⟩ <;> (rw [Lib.cell_of_heap hh]; rfl)
theorem PAt.free {w : World} {p : Nat} {s : ByteArray} {st : PSt} (h : PAt w p s st) (i : Nat) : w.frozen? ⟨p, i, none⟩ = false := by
  obtain ⟨v, hh, _⟩ := h
  exact Lib.frozen_of_heap hh i
theorem PAt.lt {w : World} {p : Nat} {s : ByteArray} {st : PSt} (h : PAt w p s st) : p < w.heap.size := by
  obtain ⟨v, hh, _⟩ := h
  exact heap_lt hh
theorem PAt.keep {w w' : World} {p : Nat} {s : ByteArray} {st : PSt} (h : PAt w p s st) (hb : Below w.heap.size w w') : PAt w' p s st := by
  obtain ⟨v, hh, hown⟩ := h
  exact ⟨v, (hb.block p (heap_lt hh)).trans hh, own_below hown hb⟩
theorem PAt.drew {w : World} {p : Nat} {s : ByteArray} {st : PSt} (h : PAt w p s st) : PAt w.drew p s st := by
  obtain ⟨v, hh, hown⟩ := h
  exact ⟨v, hh, hown⟩

set_option maxHeartbeats 2000000 in
set_option maxRecDepth 100000 in
theorem prs_line (p : Nat) (s : ByteArray) (st : PSt) (frm : Nat) (w : World) (h : PAt w p s st) (hs : s.size ≤ 1000000) (hfrm : frm ≤ s.size) :
    Calls Try.prog 55 #[.pointer (some ⟨p, 0, none⟩), .int .i64 frm] w fun e w' => e = .returned (.tuple #[]) ∧ PLeft w w' p s (pLine (toL s) st frm) := by
  obtain ⟨hc0, hc1, hc2, hc3, hc5⟩ := h.cells
  have hf1 := h.free 1
  have hf2 := h.free 2
  have hf3 := h.free 3
  by_cases he : st.e = 0
  · have he' : (st.e != 0) = false := by simpa using he
    have HE := Lib.hid he
    clear he
    have hrng := lineLen_range (toL s) frm (by rw [toL_length]; exact hfrm)
    rw [toL_length] at hrng
    go_enter Try.func55, Try.ntmps55
    go_wp2_with fail
    (with_reducible refine (idx_call _ _ _).mono ?_)
    rintro e w1 ⟨rfl, rfl⟩
    rw [line_idx]
    by_cases hneg : lineLen (toL s) frm < 0
    · have hneg' : decide (lineLen (toL s) frm < 0) = true := by simpa using hneg
      have HP := Lib.hid (show pLine (toL s) st frm = pFail st s.size 4 by simp [pLine, HE.out, hneg, toL_length])
      clear hneg hrng
      go_wp2_with fail
      (with_reducible refine (prs_fail p s st _ _ _ h (by omega)).mono ?_)
      rw [Int.toNat_natCast]
      rintro e w1 ⟨rfl, hl⟩
      go_wp2_with fail
      refine bodyPost_ret (results_none rfl _ _ _) rfl ?_
      rw [HP.out]
      exact ⟨rfl, hl⟩
    · obtain ⟨n, hn⟩ : ∃ n : Nat, lineLen (toL s) frm = n := ⟨(lineLen (toL s) frm).toNat, by omega⟩
      have HP := Lib.hid (show pLine (toL s) st frm = (if 998 < n then pFail { st with frm := frm, to := frm + n, at_ := frm } (frm + 998) 5 else
          if 0 ≤ findI (fun c => forbidden (num c)) (cutL (toL s) frm (frm + n)) 0 then pFail { st with frm := frm, to := frm + n, at_ := frm } (frm + (findI (fun c => forbidden (num c)) (cutL (toL s) frm (frm + n)) 0).toNat) 6
          else { st with frm := frm, to := frm + n, at_ := frm }) by simp only [pLine]; rw [if_neg (by simp [HE.out]), if_neg hneg, hn]; simp)
      rw [hn]
      have hnlt : frm + n < s.size := by omega
      have hnn : decide ((n : Int) < 0) = false := by simp
      clear hneg hrng hn
      by_cases h9 : 998 < n
      · have h9' : decide ((998 : Int) < (n : Int)) = true := by simp; omega
        have HP2 := Lib.hid (HP.out.trans (if_pos h9))
        go_wp2_with fail
        have hP1 : PAt (((w.setCell ⟨p, 1, none⟩ (.int .i64 frm)).setCell ⟨p, 2, none⟩ (.int .i64 ((frm : Int) + n))).setCell ⟨p, 3, none⟩ (.int .i64 frm)) p s { st with frm := frm, to := frm + n, at_ := frm } :=
          ((h.set (st' := { st with frm := frm }) rfl (fun _ => rfl)).set (st' := { st with frm := frm, to := frm + n }) rfl (fun _ => rfl)).set rfl (fun _ => rfl)
        have hB1 : Below p w (((w.setCell ⟨p, 1, none⟩ (.int .i64 frm)).setCell ⟨p, 2, none⟩ (.int .i64 ((frm : Int) + n))).setCell ⟨p, 3, none⟩ (.int .i64 frm)) :=
          (((Below.refl _ _).setCell (p := ⟨p, 1, none⟩) (Nat.le_refl _) _).setCell (p := ⟨p, 2, none⟩) (Nat.le_refl _) _).setCell (p := ⟨p, 3, none⟩) (Nat.le_refl _) _
        (with_reducible refine (prs_fail p s _ _ _ _ hP1 (by omega)).mono ?_)
        rw [show ((frm : Int) + 998).toNat = frm + 998 from by omega]
        rintro e w1 ⟨rfl, hl⟩
        go_wp2_with fail
        refine bodyPost_ret (results_none rfl _ _ _) rfl ?_
        rw [HP2.out]
        exact ⟨rfl, hl.at_, hB1.trans hl.below⟩
      · have h9' : decide ((998 : Int) < (n : Int)) = false := by simp; omega
        have HP2 := Lib.hid (HP.out.trans (if_neg h9))
        go_wp2_with fail
        have hP1 : PAt (((w.setCell ⟨p, 1, none⟩ (.int .i64 frm)).setCell ⟨p, 2, none⟩ (.int .i64 ((frm : Int) + n))).setCell ⟨p, 3, none⟩ (.int .i64 frm)) p s { st with frm := frm, to := frm + n, at_ := frm } :=
          ((h.set (st' := { st with frm := frm }) rfl (fun _ => rfl)).set (st' := { st with frm := frm, to := frm + n }) rfl (fun _ => rfl)).set rfl (fun _ => rfl)
        have hB1 : Below p w (((w.setCell ⟨p, 1, none⟩ (.int .i64 frm)).setCell ⟨p, 2, none⟩ (.int .i64 ((frm : Int) + n))).setCell ⟨p, 3, none⟩ (.int .i64 frm)) :=
          (((Below.refl _ _).setCell (p := ⟨p, 1, none⟩) (Nat.le_refl _) _).setCell (p := ⟨p, 2, none⟩) (Nat.le_refl _) _).setCell (p := ⟨p, 3, none⟩) (Nat.le_refl _) _
        generalize (((w.setCell ⟨p, 1, none⟩ (.int .i64 frm)).setCell ⟨p, 2, none⟩ (.int .i64 ((frm : Int) + n))).setCell ⟨p, 3, none⟩ (.int .i64 frm)) = w1 at hP1 hB1 ⊢
        obtain ⟨hd0, hd1, hd2, hd3, hd5⟩ := hP1.cells
        clear hc0 hc1 hc2 hc3 hc5 hf1 hf2 hf3
        have hplt := hP1.lt
        have hconv := Lib.run_convert_string_bytes (P := Try.prog) w1.drew 9 64 5 (s.extract frm (frm + n)) Try.underlying9 Try.underlying64 Try.underlying5
        have hrow := bytesWorld_row w1.drew 5 (s.extract frm (frm + n))
        have hbel := bytesWorld_below w1.drew 5 (s.extract frm (frm + n))
        have hszx : (s.extract frm (frm + n)).size = n := by rw [extract_ofL, ofL_size, cutL_length _ _ _ (by rw [toL_length]; omega)]; omega
        rw [hszx] at hconv
        generalize Lib.bytesWorld w1.drew 5 (s.extract frm (frm + n)) = w2 at hconv hrow hbel
        generalize grownCap w1.drew n 0 5 = cap at hconv
        have hlen : (toL (s.extract frm (frm + n))).length = n := by rw [toL_length, hszx]
        have hcf := Lib.hid (sl_indexFunc_byte 84 forbidden class_forbidden (some ⟨w1.heap.size, 0, none⟩) (toL (s.extract frm (frm + n))) cap w2 (by rw [hlen]; unfold maxLen; omega) hrow)
        rw [hlen, extract_ofL, toL_ofL] at hcf
        clear hrow hszx hlen
        have e1 : w1.drew.heap.size = w1.heap.size := rfl
        rw [e1] at hconv
        clear e1
        have i1 : (0 : Int) ≤ (frm : Int) := by omega
        have i2 : (frm : Int) ≤ (frm : Int) + (n : Int) := by omega
        have i3 : (frm : Int) + (n : Int) ≤ (s.size : Int) := by omega
        have i4 : (0 : Int) ≤ (frm : Int) + (n : Int) := by omega
        have i5 : ((frm : Int) + (n : Int)).toNat = frm + n := by omega
        go_region_with ((go_at_call 72; refine hcf.out.mono ?_; rintro e w3 ⟨rfl, rfl⟩))
        all_goals
          have hP2 : PAt w2 p s { st with frm := frm, to := frm + n, at_ := frm } := (hP1.drew).keep hbel
          have hB2 : Below p w w2 := hB1.trans ((below_undrew hbel).mono (Nat.le_of_lt hplt))
          have hir := findI_range (fun c => forbidden (num c)) (cutL (toL s) frm (frm + n)) 0
          rw [cutL_length _ _ _ (by rw [toL_length]; omega)] at hir
          generalize findI (fun c => forbidden (num c)) (cutL (toL s) frm (frm + n)) 0 = ii at *
          by_cases hi0 : 0 ≤ ii
          · have hi0' : decide (0 ≤ ii) = true := by simpa using hi0
            have HP3 := Lib.hid (HP2.out.trans (if_pos hi0))
            have hii : ii ≤ 1000000 := by omega
            clear hir
            go_wp2_with fail
            (with_reducible refine (prs_fail p s _ _ _ _ hP2 (by omega)).mono ?_)
            rw [show ((frm : Int) + ii).toNat = frm + ii.toNat from by omega]
            rintro e w4 ⟨rfl, hl⟩
            go_wp2_with fail
            go_end0
            rw [HP3.out]
            exact ⟨rfl, hl.at_, hB2.trans hl.below⟩
          · have hi0' : decide (0 ≤ ii) = false := by simpa using hi0
            have HP3 := Lib.hid (HP2.out.trans (if_neg hi0))
            clear hir
            go_wp2_with fail
            go_end0
            rw [HP3.out]
            exact ⟨rfl, hP2, hB2⟩
  · have he' : (st.e != 0) = true := by simpa using he
    have HP := Lib.hid (show pLine (toL s) st frm = st by simp [pLine, he])
    clear he
    go_enter Try.func55, Try.ntmps55
    go_wp2_with fail
    refine bodyPost_ret (results_none rfl _ _ _) rfl ?_
    rw [HP.out]
    exact ⟨rfl, h, Below.refl _ _⟩

end Go.Proofs.Ytaigbplfbfaghaa
