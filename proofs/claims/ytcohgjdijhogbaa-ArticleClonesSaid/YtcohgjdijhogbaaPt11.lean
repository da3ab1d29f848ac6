/- Lemmas and walks, part 11. -/
import Derived.Test.YtcohgjdijhogbaaPt10
import Derived.Test.YtcohgjdijhogbaaPt1
import Derived.Lib.IndexBytes
import Derived.Deep.RegionLaw
import Derived.Deep.LoopGhost
namespace Go.Proofs.Ytcohgjdijhogbaa
set_option linter.unusedSimpArgs false
set_option linter.unusedVariables false
open Go.RowKit

/-- The parser's struct in block p, its text and its state. -/
structure PAt (w : World) (p : Nat) (s : ByteArray) (st : PSt) : Prop where
  ex : ∃ v, w.heap[p]? = some (.cells #[.string s, .int .i64 st.frm, .int .i64 st.to, .int .i64 st.at_, v, .int .i64 st.e] 117 (0, 0)) ∧
    w.ownsRow (p + 1) 59 2 v st.fields.length (fldsV st.fields)

/-- What a method leaves: the new state; nothing below the parser's block has turned. -/
structure PLeft (w w' : World) (p : Nat) (s : ByteArray) (st : PSt) : Prop where
  at_ : PAt w' p s st
  below : Below p w w'

set_option maxHeartbeats 1000000 in
set_option maxRecDepth 100000 in
theorem prs_fail (p : Nat) (s : ByteArray) (st : PSt) (a : Int) (c : Int) (w : World) (h : PAt w p s st) (ha : 0 ≤ a) :
    Calls Try.prog 86 #[.pointer (some ⟨p, 0, none⟩), .int .i64 a, .int .i64 c] w fun e w' => e = .returned (.tuple #[]) ∧ PLeft w w' p s (pFail st a.toNat c) := by
  obtain ⟨a, rfl⟩ := Int.eq_ofNat_of_zero_le ha
  rw [Int.toNat_natCast]
  clear ha
  obtain ⟨v, hh, hown⟩ := h
  have hc5 : w.cell? ⟨p, 5, none⟩ = some (.int .i64 st.e) := by rw [Lib.cell_of_heap hh]; rfl
  have hc3 : w.cell? ⟨p, 3, none⟩ = some (.int .i64 st.at_) := by rw [Lib.cell_of_heap hh]; rfl
  have hf5 : w.frozen? ⟨p, 5, none⟩ = false := Lib.frozen_of_heap hh 5
  have hf3 : w.frozen? ⟨p, 3, none⟩ = false := Lib.frozen_of_heap hh 3
  have HH := Lib.hid hh; clear hh
  by_cases he : st.e = 0
  · have he' : (st.e == 0) = true := by simpa using he
    have HE := Lib.hid (show pFail st a c = { st with at_ := a, e := c } by simp [pFail, he])
    clear he
    go_enter Try.func86, Try.ntmps86
    go_wp2_with fail
    go_end0
    refine ⟨rfl, ⟨v, ?_, ?_⟩, ?_⟩
    · rw [HE.out]
      exact heap_set (heap_set HH.out _) _
    · rw [HE.out]
      exact ownsRow_setCell_below (ownsRow_setCell_below hown (by simp) _) (by simp) _
    · exact ((Below.refl _ _).setCell (p := ⟨p, 3, none⟩) (Nat.le_refl _) _).setCell (p := ⟨p, 5, none⟩) (Nat.le_refl _) _
  · have he' : (st.e == 0) = false := by simpa using he
    have HE := Lib.hid (show pFail st a c = st by simp [pFail, he])
    clear he
    go_enter Try.func86, Try.ntmps86
    go_wp2_with fail
    go_end0
    rw [HE.out]
    exact ⟨rfl, ⟨v, HH.out, hown⟩, Below.refl _ _⟩


theorem indexByte_findI_aux (c : UInt8) (l : List UInt8) : ∀ k : Nat, findI (fun x => x == c) l k = if Lib.indexByte l c = -1 then -1 else Lib.indexByte l c + k := by
  induction l with
  | nil => intro k; simp [findI, Lib.indexByte]
  | cons x r ih =>
    intro k
    have hge := Lib.indexByte_ge r c
    by_cases hx : x = c
    · simp [findI, Lib.indexByte, hx]
    · simp only [findI, Lib.indexByte, beq_iff_eq, if_neg hx, ih (k + 1)]
      split
      · simp
      · rw [if_neg (by omega)]; omega
theorem indexByte_findI (l : List UInt8) (c : UInt8) : Lib.indexByte l c = findI (fun x => x == c) l 0 := by
  rw [indexByte_findI_aux]; split <;> simp_all

theorem idx_call (s : ByteArray) (c : Int) (w : World) :
    Calls Try.prog 85 #[.string s, .int .u8 c] w fun e w' => e = .returned (.int .i64 (findI (fun x => x == c.toNat.toUInt8) (toL s) 0)) ∧ w = w' :=
  (Try.strings_IndexByte s c w).mono fun _ _ ⟨h1, h2⟩ => ⟨by rw [h1, indexByte_findI]; rfl, h2.symm⟩

set_option maxHeartbeats 400000 in
theorem prs_forbidden (c : Int) (w : World) :
    Calls Try.prog 87 #[.int .u8 c] w fun e w' => e = .returned (.bool (forbidden c)) ∧ w = w' := by
  rcases h : isVisible c with _ | _
  all_goals
    go_enter Try.func87, Try.ntmps87
    go_wp2_with (first | (go_at_call 88; refine (asc_isVisible _ _).mono ?_; rintro e w' ⟨rfl, rfl⟩) | (go_at_call 89; refine (asc_isBlank _ _).mono ?_; rintro e w' ⟨rfl, rfl⟩))
    go_ret
    exact ⟨ret_bool (by simp [forbidden, h]), rfl⟩
theorem class_forbidden : ClassIs 87 forbidden := ⟨Try.call87, prs_forbidden⟩


theorem line_idx (s : ByteArray) (frm : Nat) : findI (fun x => x == ((10 : Int).toNat.toUInt8)) (toL (s.extract frm s.size)) 0 = lineLen (toL s) frm := by
  have : toL (s.extract frm s.size) = (toL s).drop frm := Lib.extract_to_end s frm
  rw [this]; rfl

theorem PAt.set {w : World} {p : Nat} {s : ByteArray} {st st' : PSt} {i : Nat} {u : Value} (h : PAt w p s st) (hf : st'.fields = st.fields)
    (hc : ∀ v, (#[.string s, .int .i64 st.frm, .int .i64 st.to, .int .i64 st.at_, v, .int .i64 st.e] : Array Value).setIfInBounds i u = #[.string s, .int .i64 st'.frm, .int .i64 st'.to, .int .i64 st'.at_, v, .int .i64 st'.e]) :
    PAt (w.setCell ⟨p, i, none⟩ u) p s st' := by
  obtain ⟨v, hh, hown⟩ := h
  refine ⟨v, ?_, ?_⟩
  · rw [← hc v]; exact heap_set hh _
  · rw [hf]; exact ownsRow_setCell_below hown (by simp) _
theorem PAt.cells {w : World} {p : Nat} {s : ByteArray} {st : PSt} (h : PAt w p s st) :
    w.cell? ⟨p, 0, none⟩ = some (.string s) ∧ w.cell? ⟨p, 1, none⟩ = some (.int .i64 st.frm) ∧ w.cell? ⟨p, 2, none⟩ = some (.int .i64 st.to) ∧ w.cell? ⟨p, 3, none⟩ = some (.int .i64 st.at_) ∧ w.cell? ⟨p, 5, none⟩ = some (.int .i64 st.e) := by
  obtain ⟨v, hh, _⟩ := h
  refine ⟨?_, ?_, ?_, ?_, ?_⟩ <;> (rw [Lib.cell_of_heap hh]; rfl)
theorem PAt.free {w : World} {p : Nat} {s : ByteArray} {st : PSt} (h : PAt w p s st) (i : Nat) : w.frozen? ⟨p, i, none⟩ = false := by
  obtain ⟨v, hh, _⟩ := h
  exact Lib.frozen_of_heap hh i
theorem PAt.lt {w : World} {p : Nat} {s : ByteArray} {st : PSt} (h : PAt w p s st) : p < w.heap.size := by
  obtain ⟨v, hh, _⟩ := h
  exact heap_lt hh
theorem PAt.keep {w w' : World} {p : Nat} {s : ByteArray} {st : PSt} (h : PAt w p s st) (hb : Below w.heap.size w w') : PAt w' p s st := by
  obtain ⟨v, hh, hown⟩ := h
  exact ⟨v, (hb.block p (heap_lt hh)).trans hh, own_below hown hb⟩
theorem PAt.drew {w : World} {p : Nat} {s : ByteArray} {st : PSt} (h : PAt w p s st) : PAt w.drew p s st := by
  obtain ⟨v, hh, hown⟩ := h
  exact ⟨v, hh, hown⟩

set_option maxHeartbeats 2000000 in
set_option maxRecDepth 100000 in
theorem prs_line (p : Nat) (s : ByteArray) (st : PSt) (frm : Nat) (w : World) (h : PAt w p s st) (hs : s.size ≤ 1000000) (hfrm : frm ≤ s.size) :
    Calls Try.prog 71 #[.pointer (some ⟨p, 0, none⟩), .int .i64 frm] w fun e w' => e = .returned (.tuple #[]) ∧ PLeft w w' p s (pLine (toL s) st frm) := by
  obtain ⟨hc0, hc1, hc2, hc3, hc5⟩ := h.cells
  have hf1 := h.free 1
  have hf2 := h.free 2
  have hf3 := h.free 3
  by_cases he : st.e = 0
  · have he' : (st.e != 0) = false := by simpa using he
    have HE := Lib.hid he
    clear he
    have hrng := lineLen_range (toL s) frm (by rw [toL_length]; exact hfrm)
    rw [toL_length] at hrng
    go_enter Try.func71, Try.ntmps71
    go_wp2_with fail
    (with_reducible refine (idx_call _ _ _).mono ?_)
    rintro e w1 ⟨rfl, rfl⟩
    rw [line_idx]
    by_cases hneg : lineLen (toL s) frm < 0
    · have hneg' : decide (lineLen (toL s) frm < 0) = true := by simpa using hneg
      have HP := Lib.hid (show pLine (toL s) st frm = pFail st s.size 4 by simp [pLine, HE.out, hneg, toL_length])
      clear hneg hrng
      go_wp2_with fail
      (with_reducible refine (prs_fail p s st _ _ _ h (by omega)).mono ?_)
      rw [Int.toNat_natCast]
      rintro e w1 ⟨rfl, hl⟩
      go_wp2_with fail
      refine bodyPost_ret (results_none rfl _ _ _) rfl ?_
      rw [HP.out]
      exact ⟨rfl, hl⟩
    · obtain ⟨n, hn⟩ : ∃ n : Nat, lineLen (toL s) frm = n := ⟨(lineLen (toL s) frm).toNat, by omega⟩
      have HP := Lib.hid (show pLine (toL s) st frm = (if 998 < n then pFail { st with frm := frm, to := frm + n, at_ := frm } (frm + 998) 5 else
          if 0 ≤ findI (fun c => forbidden (num c)) (cutL (toL s) frm (frm + n)) 0 then pFail { st with frm := frm, to := frm + n, at_ := frm } (frm + (findI (fun c => forbidden (num c)) (cutL (toL s) frm (frm + n)) 0).toNat) 6
          else { st with frm := frm, to := frm + n, at_ := frm }) by simp only [pLine]; rw [if_neg (by simp [HE.out]), if_neg hneg, hn]; simp)
      rw [hn]
      have hnlt : frm + n < s.size := by omega
      have hnn : decide ((n : Int) < 0) = false := by simp
      clear hneg hrng hn
      by_cases h9 : 998 < n
      · have h9' : decide ((998 : Int) < (n : Int)) = true := by simp; omega
        have HP2 := Lib.hid (HP.out.trans (if_pos h9))
        go_wp2_with fail
        have hP1 : PAt (((w.setCell ⟨p, 1, none⟩ (.int .i64 frm)).setCell ⟨p, 2, none⟩ (.int .i64 ((frm : Int) + n))).setCell ⟨p, 3, none⟩ (.int .i64 frm)) p s { st with frm := frm, to := frm + n, at_ := frm } :=
          ((h.set (st' := { st with frm := frm }) rfl (fun _ => rfl)).set (st' := { st with frm := frm, to := frm + n }) rfl (fun _ => rfl)).set rfl (fun _ => rfl)
        have hB1 : Below p w (((w.setCell ⟨p, 1, none⟩ (.int .i64 frm)).setCell ⟨p, 2, none⟩ (.int .i64 ((frm : Int) + n))).setCell ⟨p, 3, none⟩ (.int .i64 frm)) :=
          (((Below.refl _ _).setCell (p := ⟨p, 1, none⟩) (Nat.le_refl _) _).setCell (p := ⟨p, 2, none⟩) (Nat.le_refl _) _).setCell (p := ⟨p, 3, none⟩) (Nat.le_refl _) _
        (with_reducible refine (prs_fail p s _ _ _ _ hP1 (by omega)).mono ?_)
        rw [show ((frm : Int) + 998).toNat = frm + 998 from by omega]
        rintro e w1 ⟨rfl, hl⟩
        go_wp2_with fail
        refine bodyPost_ret (results_none rfl _ _ _) rfl ?_
        rw [HP2.out]
        exact ⟨rfl, hl.at_, hB1.trans hl.below⟩
      · have h9' : decide ((998 : Int) < (n : Int)) = false := by simp; omega
        have HP2 := Lib.hid (HP.out.trans (if_neg h9))
        go_wp2_with fail
        have hP1 : PAt (((w.setCell ⟨p, 1, none⟩ (.int .i64 frm)).setCell ⟨p, 2, none⟩ (.int .i64 ((frm : Int) + n))).setCell ⟨p, 3, none⟩ (.int .i64 frm)) p s { st with frm := frm, to := frm + n, at_ := frm } :=
          ((h.set (st' := { st with frm := frm }) rfl (fun _ => rfl)).set (st' := { st with frm := frm, to := frm + n }) rfl (fun _ => rfl)).set rfl (fun _ => rfl)
        have hB1 : Below p w (((w.setCell ⟨p, 1, none⟩ (.int .i64 frm)).setCell ⟨p, 2, none⟩ (.int .i64 ((frm : Int) + n))).setCell ⟨p, 3, none⟩ (.int .i64 frm)) :=
          (((Below.refl _ _).setCell (p := ⟨p, 1, none⟩) (Nat.le_refl _) _).setCell (p := ⟨p, 2, none⟩) (Nat.le_refl _) _).setCell (p := ⟨p, 3, none⟩) (Nat.le_refl _) _
        generalize (((w.setCell ⟨p, 1, none⟩ (.int .i64 frm)).setCell ⟨p, 2, none⟩ (.int .i64 ((frm : Int) + n))).setCell ⟨p, 3, none⟩ (.int .i64 frm)) = w1 at hP1 hB1 ⊢
        obtain ⟨hd0, hd1, hd2, hd3, hd5⟩ := hP1.cells
        clear hc0 hc1 hc2 hc3 hc5 hf1 hf2 hf3
        have hplt := hP1.lt
        have hconv := Lib.run_convert_string_bytes (P := Try.prog) w1.drew 9 70 5 (s.extract frm (frm + n)) Try.underlying9 Try.underlying70 Try.underlying5
        have hrow := bytesWorld_row w1.drew 5 (s.extract frm (frm + n))
        have hbel := bytesWorld_below w1.drew 5 (s.extract frm (frm + n))
        have hszx : (s.extract frm (frm + n)).size = n := by rw [extract_ofL, ofL_size, cutL_length _ _ _ (by rw [toL_length]; omega)]; omega
        rw [hszx] at hconv
        generalize Lib.bytesWorld w1.drew 5 (s.extract frm (frm + n)) = w2 at hconv hrow hbel
        generalize grownCap w1.drew n 0 5 = cap at hconv
        have hlen : (toL (s.extract frm (frm + n))).length = n := by rw [toL_length, hszx]
        have hcf := Lib.hid (sl_indexFunc_byte 87 forbidden class_forbidden (some ⟨w1.heap.size, 0, none⟩) (toL (s.extract frm (frm + n))) cap w2 (by rw [hlen]; unfold maxLen; omega) hrow)
        rw [hlen, extract_ofL, toL_ofL] at hcf
        clear hrow hszx hlen
        have e1 : w1.drew.heap.size = w1.heap.size := rfl
        rw [e1] at hconv
        clear e1
        have i1 : (0 : Int) ≤ (frm : Int) := by omega
        have i2 : (frm : Int) ≤ (frm : Int) + (n : Int) := by omega
        have i3 : (frm : Int) + (n : Int) ≤ (s.size : Int) := by omega
        have i4 : (0 : Int) ≤ (frm : Int) + (n : Int) := by omega
        have i5 : ((frm : Int) + (n : Int)).toNat = frm + n := by omega
        go_region_with ((go_at_call 90; refine hcf.out.mono ?_; rintro e w3 ⟨rfl, rfl⟩))
        all_goals
          have hP2 : PAt w2 p s { st with frm := frm, to := frm + n, at_ := frm } := (hP1.drew).keep hbel
          have hB2 : Below p w w2 := hB1.trans ((below_undrew hbel).mono (Nat.le_of_lt hplt))
          have hir := findI_range (fun c => forbidden (num c)) (cutL (toL s) frm (frm + n)) 0
          rw [cutL_length _ _ _ (by rw [toL_length]; omega)] at hir
          generalize findI (fun c => forbidden (num c)) (cutL (toL s) frm (frm + n)) 0 = ii at *
          by_cases hi0 : 0 ≤ ii
          · have hi0' : decide (0 ≤ ii) = true := by simpa using hi0
            have HP3 := Lib.hid (HP2.out.trans (if_pos hi0))
            have hii : ii ≤ 1000000 := by omega
            clear hir
            go_wp2_with fail
            (with_reducible refine (prs_fail p s _ _ _ _ hP2 (by omega)).mono ?_)
            rw [show ((frm : Int) + ii).toNat = frm + ii.toNat from by omega]
            rintro e w4 ⟨rfl, hl⟩
            go_wp2_with fail
            go_end0
            rw [HP3.out]
            exact ⟨rfl, hl.at_, hB2.trans hl.below⟩
          · have hi0' : decide (0 ≤ ii) = false := by simpa using hi0
            have HP3 := Lib.hid (HP2.out.trans (if_neg hi0))
            clear hir
            go_wp2_with fail
            go_end0
            rw [HP3.out]
            exact ⟨rfl, hP2, hB2⟩
  · have he' : (st.e != 0) = true := by simpa using he
    have HP := Lib.hid (show pLine (toL s) st frm = st by simp [pLine, he])
    clear he
    go_enter Try.func71, Try.ntmps71
    go_wp2_with fail
    refine bodyPost_ret (results_none rfl _ _ _) rfl ?_
    rw [HP.out]
    exact ⟨rfl, h, Below.refl _ _⟩

end Go.Proofs.Ytcohgjdijhogbaa

namespace Go.Proofs.Ytcohgjdijhogbaa
set_option linter.unusedSimpArgs false
set_option linter.unusedVariables false
open Go.RowKit

theorem PAt.drewN {w : World} {p : Nat} {s : ByteArray} {st : PSt} (h : PAt w p s st) (n : Nat) : PAt (w.drewN n) p s st := by
  obtain ⟨v, hh, hown⟩ := h
  exact ⟨v, hh, hown⟩
theorem more_nil {x : ByteArray} (h : x.size = 0) : moreLine (toL x) = false := by rw [toL_nil h]; rfl
theorem more_cons {x : ByteArray} (h : 0 < x.size) : moreLine (toL x) = isBlank (num x[0]) := by
  obtain ⟨r, e, _⟩ := toL_first h
  rw [e]; rfl

theorem info_field : (Try.prog.info? 59).map (fun i => (i.zero, i.size, i.bytes)) = some (some (.agg #[.string ⟨#[]⟩, .string ⟨#[]⟩]), 2, 32) := by kernel_rfl

set_option maxHeartbeats 2000000 in
set_option maxRecDepth 100000 in
theorem prs_name (p : Nat) (s : ByteArray) (st : PSt) (w : World) (h : PAt w p s st) (hs : s.size ≤ 1000000) (hpre : st.e = 0 → st.frm ≤ st.to ∧ st.to ≤ s.size ∧ st.fields.length ≤ 64) :
    Calls Try.prog 72 #[.pointer (some ⟨p, 0, none⟩)] w fun e w' => e = .returned (.tuple #[]) ∧ PLeft w w' p s (pName validName (toL s) st) := by
  obtain ⟨hc0, hc1, hc2, hc3, hc5⟩ := h.cells
  by_cases he : st.e = 0
  · obtain ⟨hft, hto, hn64⟩ := hpre he
    clear hpre
    have he' : (st.e != 0) = false := by simpa using he
    have HP := Lib.hid (show pName validName (toL s) st = _ from (by unfold pName; rw [if_neg (by simp [he])]))
    rw [← extract_toL] at HP
    clear he
    have i1 : (0 : Int) ≤ (st.frm : Int) := by omega
    have i2 : (st.frm : Int) ≤ (st.to : Int) := by omega
    have i3 : (st.to : Int) ≤ (s.size : Int) := by omega
    go_enter Try.func72, Try.ntmps72
    go_wp2_with fail
    go_quiet (fail)
    have hP1 := h.drewN nq
    have hB1 := below_drewN (Below.refl p w) nq
    obtain ⟨w1, hw1⟩ : ∃ w1, w1 = w.drewN nq := ⟨_, rfl⟩
    rw [← hw1] at hP1 hB1 ⊢
    clear hw1 hc0 hc1 hc2 hc3 hc5
    obtain ⟨hc0, hc1, hc2, hc3, hc5⟩ := hP1.cells
    have hxs := extract_size s st.frm st.to hto
    generalize s.extract st.frm st.to = x at *
    have hx1 : x.size ≤ 1000000 := by omega
    clear hxs
    obtain ⟨v, hh, hown⟩ := hP1
    obtain ⟨A, c, rfl, _⟩ := own_row hown
    have hP1 : PAt w1 p s st := ⟨_, hh, hown⟩
    have hc4 : w1.cell? ⟨p, 4, none⟩ = some (.slice A st.fields.length c) := by rw [Lib.cell_of_heap hh]; rfl
    have HH := Lib.hid hh
    clear hh
    by_cases hx0 : x.size = 0
    · have hxe : x.toList = [] := toList_nil hx0
      have hcol : findI (fun c => c == (58 : UInt8)) (toL x) 0 = -1 := by rw [toL_nil hx0]; rfl
      have HP2 := Lib.hid (HP.out.trans ((if_neg (by simp [more_nil hx0])).trans (if_pos (by rw [hcol]; decide))))
      have HC := Lib.hid hcol
      clear hx0 hcol
      go_wp2_with fail
      (with_reducible refine (idx_call _ _ _).mono ?_)
      rintro e w2 ⟨rfl, rfl⟩
      rw [show ((58 : Int).toNat.toUInt8) = (58 : UInt8) from rfl, HC.out]
      go_wp2_with fail
      (with_reducible refine (prs_fail p s st _ _ _ hP1 (by omega)).mono ?_)
      rw [Int.toNat_natCast]
      rintro e w2 ⟨rfl, hl⟩
      go_wp2_with fail
      go_end0
      rw [HP2.out]
      exact ⟨rfl, hl.at_, hB1.trans hl.below⟩
    · have hxe : x.toList.isEmpty = false := toList_cons hx0
      have hx2 : 0 < x.size := by omega
      have hmore := more_cons hx2
      clear hx0
      rcases hb : isBlank (num x[0]) with _ | _
      · rw [hb] at hmore
        have HP2 := Lib.hid (HP.out.trans (if_neg (by simp [hmore])))
        clear hmore
        have hir := findI_range (fun c => c == (58 : UInt8)) (toL x) 0
        rw [toL_length] at hir
        go_wp2_with (first | (go_at_call 89; refine (asc_isBlank _ _).mono ?_; rintro e w' ⟨rfl, rfl⟩))
        (with_reducible refine (idx_call _ _ _).mono ?_)
        rintro e w2 ⟨rfl, rfl⟩
        rw [show ((58 : Int).toNat.toUInt8) = (58 : UInt8) from rfl]
        generalize findI (fun c => c == (58 : UInt8)) (toL x) 0 = ii at *
        by_cases hneg : ii < 0
        · have hneg' : decide (ii < 0) = true := by simpa using hneg
          have HP3 := Lib.hid (HP2.out.trans (if_pos hneg))
          go_wp2_with fail
          (with_reducible refine (prs_fail p s st _ _ _ hP1 (by omega)).mono ?_)
          rw [Int.toNat_natCast]
          rintro e w2 ⟨rfl, hl⟩
          go_wp2_with fail
          go_end0
          rw [HP3.out]
          exact ⟨rfl, hl.at_, hB1.trans hl.below⟩
        · obtain ⟨k, rfl⟩ : ∃ k : Nat, ii = k := ⟨ii.toNat, by omega⟩
          have hneg' : decide ((k : Int) < 0) = false := by simp
          have HP3 := Lib.hid (HP2.out.trans (if_neg hneg))
          rw [Int.toNat_natCast] at HP3
          have hk : k < x.size := by omega
          clear hneg hir
          go_wp2_with fail
          (with_reducible refine (fld_validName _ _ ?hsz).mono ?_)
          case hsz => rw [extract_size _ _ _ (by omega)]; unfold maxLen; omega
          rintro e w2 ⟨rfl, hb2⟩
          have htk : toL (x.extract 0 k) = (toL x).take k := by rw [extract_toL]; simp [cutL]
          rw [htk]
          have HTK := Lib.hid htk
          have hP2 := hP1.keep hb2
          have hB2 := hB1.trans (hb2.mono (Nat.le_of_lt hP1.lt))
          clear hc0 hc1 hc2 hc3 hc5 hc4 htk
          obtain ⟨hc0, hc1, hc2, hc3, hc5⟩ := hP2.cells
          have hh2 := (hb2.block p hP1.lt).trans HH.out
          have hown2 := own_below hown hb2
          have hc4 : w2.cell? ⟨p, 4, none⟩ = some (.slice A st.fields.length c) := by rw [Lib.cell_of_heap hh2]; rfl
          have HH2 := Lib.hid hh2
          clear hh2 HH hP1 hB1 hown hb2
          rcases hv : validName ((toL x).take k) with _ | _
          · have HP4 := Lib.hid (HP3.out.trans (if_pos hv))
            clear hv
            go_wp2_with fail
            (with_reducible refine (prs_fail p s st _ _ _ hP2 (by omega)).mono ?_)
            rw [Int.toNat_natCast]
            rintro e w3 ⟨rfl, hl⟩
            go_wp2_with fail
            go_end0
            rw [HP4.out]
            exact ⟨rfl, hl.at_, hB2.trans hl.below⟩
          · have HP4 := Lib.hid (HP3.out.trans (if_neg (by simp [hv])))
            clear hv
            by_cases h64 : st.fields.length = 64
            · have h64' : ((st.fields.length : Int) == 64) = true := by simp [h64]
              have HP5 := Lib.hid (HP4.out.trans (if_pos h64))
              clear h64
              go_wp2_with fail
              (with_reducible refine (prs_fail p s st _ _ _ hP2 (by omega)).mono ?_)
              rw [Int.toNat_natCast]
              rintro e w3 ⟨rfl, hl⟩
              go_wp2_with fail
              go_end0
              rw [HP5.out]
              exact ⟨rfl, hl.at_, hB2.trans hl.below⟩
            · have h64' : ((st.fields.length : Int) == 64) = false := beq_eq_false_iff_ne.2 (by omega)
              have HP5 := Lib.hid (HP4.out.trans (if_neg h64))
              clear h64
              obtain ⟨i0, hi0, hz0, hz1, hz2⟩ := info_parts info_field
              have plt := hP2.lt
              have aw : (Value.slice A st.fields.length c).ownBlock ≠ some p := fun e => by have := (hown2.lt _ e).1; omega
              have j1 : (0 : Int) ≤ (k : Int) := by omega
              have j2 : (k : Int) ≤ (x.size : Int) := by omega
              go_wp2_with fail
              go_region_law
                ((refine step_append_lies _ (by rfl) _ _ _ (by rfl) (p + 1) 59 i0 _ 2 32 Try.underlying47 hi0 hz0 hz1 hz2 rfl (by omega) (.slice A st.fields.length c) _ (fldsV st.fields) (by rfl) ((hown2.alloc _).drew)
                    ⟨w2.heap.size, 0, none⟩ 1 1 [.string (x.extract 0 k), .string ⟨#[]⟩] (by rfl) (by rfl) (World.news_of_block (cs := #[.string (x.extract 0 k), .string ⟨#[]⟩]) (t := 59) (fr := (0, 0)) (heap_alloc_new w2 _)) (by simp [Value.oneCell'])
                    (by omega) (by unfold maxLen; omega) (by omega) (by simp; omega) (w2.heap.size + 1) (by simp) ?_
                  intro gg cap w3 hown3 hgrow hat hlt
                  have HB := Lib.hid ((hgrow.block p (by simp; omega) (Ne.symm aw)).trans ((Lib.alloc_old w2 _ p plt).trans HH2.out))
                  have hcz : w3.cell? ⟨p, 4, none⟩ = some (.slice A st.fields.length c) := by rw [Lib.cell_of_heap HB.out]; rfl
                  have hfz : w3.frozen? ⟨p, 4, none⟩ = false := Lib.frozen_of_heap HB.out 4))
              all_goals
                have hP4 : PAt (w3.setCell ⟨p, 4, none⟩ (.slice (some ⟨gg, 0, none⟩) (st.fields.length + 1) cap)) p s { st with fields := st.fields ++ [((toL x).take k, [])] } := by
                  refine ⟨_, heap_set HB.out _, ?_⟩
                  have := ownsRow_setCell_below (a := ⟨p, 4, none⟩) hown3 (by simp) (.slice (some ⟨gg, 0, none⟩) (st.fields.length + 1) cap)
                  rw [← HTK.out]
                  simpa [fldsV, ofL_toL, show ofL [] = ⟨#[]⟩ from rfl] using this
                have hB4 : Below p w (w3.setCell ⟨p, 4, none⟩ (.slice (some ⟨gg, 0, none⟩) (st.fields.length + 1) cap)) :=
                  hB2.trans (((((Below.refl p w2).alloc (by omega) _).drew).grown hgrow (by simp; omega) (fun g hg => by have := (hown2.lt g hg).1; omega)).setCell (p := ⟨p, 4, none⟩) (Nat.le_refl _) _)
                generalize (w3.setCell ⟨p, 4, none⟩ (.slice (some ⟨gg, 0, none⟩) (st.fields.length + 1) cap)) = w4 at hP4 hB4 ⊢
                clear hc0 hc1 hc2 hc3 hc5 hc4 HB hcz hfz hgrow hown3 hat hlt HH2 hown2 hP2 hB2
                obtain ⟨hc0, hc1, hc2, hc3, hc5⟩ := hP4.cells
                have hf3 := hP4.free 3
                have s1 : st.frm + k + 1 ≤ 9223372036854775807 := by omega
                go_wp2_with fail
                go_end0
                rw [HP5.out]
                refine ⟨rfl, hP4.set rfl (fun _ => ?_), hB4.setCell (p := ⟨p, 3, none⟩) (Nat.le_refl _) _⟩
                simp
      · rw [hb] at hmore
        have HP2 := Lib.hid (HP.out.trans (if_pos hmore))
        clear hmore
        by_cases h0 : st.fields.length = 0
        · have h0' : ((st.fields.length : Int) == 0) = true := by simpa using h0
          have HP3 := Lib.hid (HP2.out.trans (if_pos h0))
          clear h0
          go_wp2_with (first | (go_at_call 89; refine (asc_isBlank _ _).mono ?_; rintro e w' ⟨rfl, rfl⟩))
          (with_reducible refine (prs_fail p s st _ _ _ hP1 (by omega)).mono ?_)
          rw [Int.toNat_natCast]
          rintro e w2 ⟨rfl, hl⟩
          go_wp2_with fail
          refine bodyPost_ret (results_none rfl _ _ _) rfl ?_
          rw [HP3.out]
          exact ⟨rfl, hl.at_, hB1.trans hl.below⟩
        · have h0' : ((st.fields.length : Int) == 0) = false := beq_eq_false_iff_ne.2 (by omega)
          have HP3 := Lib.hid (HP2.out.trans (if_neg h0))
          clear h0
          go_wp2_with (first | (go_at_call 89; refine (asc_isBlank _ _).mono ?_; rintro e w' ⟨rfl, rfl⟩))
          refine bodyPost_ret (results_none rfl _ _ _) rfl ?_
          rw [HP3.out]
          exact ⟨rfl, hP1, hB1⟩
  · clear hpre
    have he' : (st.e != 0) = true := by simpa using he
    have HP := Lib.hid (show pName validName (toL s) st = st by simp [pName, he])
    clear he
    go_enter Try.func72, Try.ntmps72
    go_wp2_with fail
    refine bodyPost_ret (results_none rfl _ _ _) rfl ?_
    rw [HP.out]
    exact ⟨rfl, h, Below.refl _ _⟩

end Go.Proofs.Ytcohgjdijhogbaa

namespace Go.Proofs.Ytcohgjdijhogbaa
set_option linter.unusedSimpArgs false
set_option linter.unusedVariables false
open Go.RowKit

set_option maxHeartbeats 4000000 in
set_option maxRecDepth 100000 in
theorem prs_word_bad (p : Nat) (s : ByteArray) (st : PSt) (w : World) (h : PAt w p s st) (he : st.e ≠ 0) :
    Calls Try.prog 92 #[.pointer (some ⟨p, 0, none⟩)] w fun e w' => e = .returned (.bool false) ∧ PLeft w w' p s st := by
  obtain ⟨hc0, hc1, hc2, hc3, hc5⟩ := h.cells
  have he' : (st.e == 0) = false := by simpa using he
  have he2 : (st.e != 0) = true := by simpa using he
  clear he
  go_enter Try.func92, Try.ntmps92
  go_wp2_with fail
  go_loopg [5] 1 (fun _ _ wr => PAt wr p s st ∧ Below p w wr)
  case atStart => exact ⟨h, Below.refl _ _⟩
  case round =>
    obtain ⟨hP, hB⟩ := hrel
    clear hc0 hc1 hc2 hc3 hc5
    obtain ⟨hc0, hc1, hc2, hc3, hc5⟩ := hP.cells
    go_wp2_with fail
    go_quiet (fail)
    go_wp2_with fail
    go_quiet (fail)
    go_wp2_with fail
    go_ret
    exact ⟨rfl, (hP.drewN _).drewN _, below_drewN (below_drewN hB _) _⟩

theorem setLast_snoc (dl : List Fd) (f : Fd) (b : List UInt8) : setLast (dl ++ [f]) b = dl ++ [(f.1, b)] := by simp [setLast]
theorem lastBody_snoc (dl : List Fd) (f : Fd) : lastBody (dl ++ [f]) = f.2 := by simp [lastBody]
theorem fldsV_set (dl : List Fd) (f : Fd) (b : ByteArray) : fldsV (dl ++ [(f.1, toL b)]) = (fldsV (dl ++ [f])).set (((dl ++ [f]).length - 1) * 2 + 1) (.string b) := by
  have h := fldsV_length dl
  simp only [fldsV, List.flatMap_append, List.flatMap_cons, List.flatMap_nil, List.append_nil] at h ⊢
  rw [List.set_append_right _ _ (by rw [h]; simp)]
  rw [h, show ((dl ++ [f]).length - 1) * 2 + 1 - dl.length * 2 = 1 from by simp]
  simp [ofL_toL]

theorem PAt.last {w : World} {p : Nat} {s : ByteArray} {st : PSt} (h : PAt w p s st) (hne : st.fields ≠ []) : ∃ g c, w.cell? ⟨p, 4, none⟩ = some (.slice (some ⟨g, 0, none⟩) st.fields.length c) ∧
    w.cell? ⟨g, (st.fields.length - 1) * 2 + 1, none⟩ = some (.string (ofL (lastBody st.fields))) ∧ w.frozen? ⟨g, (st.fields.length - 1) * 2 + 1, none⟩ = false ∧ p < g ∧ g < w.heap.size ∧
    (∀ b : ByteArray, PAt (w.setCell ⟨g, (st.fields.length - 1) * 2 + 1, none⟩ (.string b)) p s { st with fields := setLast st.fields (toL b) }) := by
  obtain ⟨v, hh, hown⟩ := h
  have hl : 0 < st.fields.length := List.length_pos_iff.2 hne
  rcases own_form hown with ⟨rfl, h0⟩ | ⟨g, cap, rfl, hg, hlt, hcap, hc⟩
  · omega
  · have hk : st.fields.length - 1 < st.fields.length := by omega
    obtain ⟨_, h2⟩ := fldsV_at st.fields (st.fields.length - 1) hk
    have hlast : st.fields.getLast? = some (st.fields[st.fields.length - 1]) := by rw [List.getLast?_eq_getElem?, List.getElem?_eq_getElem hk]
    refine ⟨g, cap, by rw [Lib.cell_of_heap hh]; rfl, ?_, hown.frozenAt _, by omega, hlt, fun b => ?_⟩
    · have := hc _ _ h2
      rw [this]; simp [lastBody, hlast]
    · refine ⟨.slice (some ⟨g, 0, none⟩) st.fields.length cap, ?_, ?_⟩
      · rw [Below.heap_setCell _ _ _ _ (by simp; omega)]; exact hh
      · have hst := hown.stored ((st.fields.length - 1) * 2 + 1) (.string b)
        have hlen : (setLast st.fields (toL b)).length = st.fields.length := by simp [setLast, hlast]; omega
        show World.ownsRow _ _ _ _ _ (setLast st.fields (toL b)).length _
        rw [hlen]
        have hset : fldsV (setLast st.fields (toL b)) = (fldsV st.fields).set ((st.fields.length - 1) * 2 + 1) (.string b) := by
          obtain ⟨dl, f, hdf⟩ : ∃ dl f, st.fields = dl ++ [f] := by
            rcases List.eq_nil_or_concat st.fields with h | ⟨dl, f, h⟩
            · exact absurd h hne
            · exact ⟨dl, f, by simpa using h⟩
          rw [hdf, setLast_snoc, fldsV_set]
        rw [hset]
        exact hst.1


theorem setCell_twice (w : World) (a : Addr) (v v' : Value) : (w.setCell a v).setCell a v' = w.setCell a v' := by
  unfold World.setCell
  congr 1
  apply Array.ext_getElem?
  intro i
  simp only [Array.getElem?_modify]
  split
  · cases w.heap[i]? with
    | none => rfl
    | some o => cases o <;> simp; split <;> simp [Array.setIfInBounds_setIfInBounds]
  · rfl
theorem toL_app (a b : ByteArray) : toL (a ++ b) = toL a ++ toL b := by simp [toL]
theorem toL_sp : toL ⟨#[32]⟩ = [32] := rfl
theorem toL_cons {b : ByteArray} (h : ¬ b.size = 0) : toL b ≠ [] := fun e => h (by rw [← toL_length, e]; rfl)

set_option maxHeartbeats 8000000 in
set_option maxRecDepth 100000 in
theorem prs_word_ok (p : Nat) (s : ByteArray) (st : PSt) (w : World) (h : PAt w p s st) (he : st.e = 0) (hs : s.size ≤ 1000000) (hat : st.at_ ≤ st.to) (hto : st.to ≤ s.size) (hne : st.fields ≠ []) (hn64 : st.fields.length ≤ 64) (hlb : (lastBody st.fields).length ≤ 3000000) :
    Calls Try.prog 92 #[.pointer (some ⟨p, 0, none⟩)] w fun e w' => e = .returned (.bool (pWord (toL s) st).1) ∧ PLeft w w' p s (pWord (toL s) st).2 := by
  have hw := Lib.hid (show pWord (toL s) st = _ from (by unfold pWord; rw [if_neg (by simp [he])]))
  have he' : (st.e == 0) = true := by simpa using he
  have he2 : (st.e != 0) = false := by simpa using he
  have HE := Lib.hid he
  have HL := Lib.hid (toL_length s)
  clear he
  go_enter Try.func92, Try.ntmps92
  go_wp2_with fail
  go_loopg [5] (st.to - st.at_) (fun g _ wr => ∃ a, g = st.to - a ∧ a ≤ st.to ∧ skipTo isBlank (toL s) st.at_ st.to = skipTo isBlank (toL s) a st.to ∧ PAt wr p s { st with at_ := a } ∧ Below p w wr)
  case atStart => exact ⟨st.at_, rfl, hat, rfl, h, Below.refl _ _⟩
  case round =>
    obtain ⟨a, rfl, ha, hsk, hP, hB⟩ := hrel
    have HSK := Lib.hid hsk; clear hsk
    obtain ⟨hc0, hc1, hc2, hc3, hc5⟩ := hP.cells
    have hf3 := hP.free 3
    by_cases hlt : a < st.to
    · have hlts : a < s.size := by omega
      have l1 : decide ((a : Int) < (st.to : Int)) = true := by simp; omega
      have l2 : (a : Int) < (st.to : Int) := by omega
      have l3 : (0 : Int) ≤ (a : Int) := by omega
      have l4 : (a : Int) < (s.size : Int) := by omega
      rcases hb : isBlank (num s[a]) with _ | _
      · have HST := Lib.hid (HSK.out.trans (skipTo_stop isBlank (toL s) a st.to hlt (by rw [HL.out]; exact hto) (by rw [toL_getElem _ _ hlts]; exact hb)))
        go_wp2_with fail
        go_quiet ((go_at_call 89; exact quiet_left' (asc_isBlank _ _)))
        have hP1 := hP.drewN nq
        have hB1 := below_drewN hB nq
        obtain ⟨w1, hw1⟩ : ∃ w1, w1 = wr.drewN nq := ⟨_, rfl⟩
        rw [← hw1] at hP1 hB1 ⊢
        clear hw1 hP hB hc0 hc1 hc2 hc3 hc5 hf3
        obtain ⟨hc0, hc1, hc2, hc3, hc5⟩ := hP1.cells
        have l5 : ((a : Int) == (st.to : Int)) = false := beq_eq_false_iff_ne.2 (by omega)
        go_wp2_with fail
        go_quiet (fail)
        have hP2 := hP1.drewN nq
        have hB2 := below_drewN hB1 nq
        obtain ⟨w2, hw2⟩ : ∃ w2, w2 = w1.drewN nq := ⟨_, rfl⟩
        rw [← hw2] at hP2 hB2 ⊢
        clear hw2 hP1 hB1 hc0 hc1 hc2 hc3 hc5
        obtain ⟨hc0, hc1, hc2, hc3, hc5⟩ := hP2.cells
        rw [HST.out] at hw
        have HW2 := Lib.hid (hw.out.trans (if_neg (by omega)))
        clear hw HSK HST
        go_wp2_with fail
        go_loop [3] (fun v => ∃ k : Nat, a ≤ k ∧ k ≤ st.to ∧ v = .int .i64 k ∧ skipTo (fun c => !isBlank c) (toL s) a st.to = skipTo (fun c => !isBlank c) (toL s) k st.to) (fun v => st.to - (intOf v).toNat)
        case atStart => exact ⟨a, Nat.le_refl _, ha, rfl, rfl⟩
        case round =>
          obtain ⟨k, hak, hk, rfl, hsk⟩ := hrel
          have HSK := Lib.hid hsk; clear hsk
          by_cases hkt : k < st.to
          · have hks : k < s.size := by omega
            have m1 : decide ((k : Int) < (st.to : Int)) = true := by simp; omega
            have m4 : (k : Int) < (s.size : Int) := by omega
            rcases hbk : isBlank (num s[k]) with _ | _
            · have HS2 := Lib.hid (HSK.out.trans (skipTo_step (fun c => !isBlank c) (toL s) k st.to hkt (by rw [HL.out]; exact hto) (by rw [toL_getElem _ _ hks]; simp [hbk])))
              go_wp2_with (go_at_call 89; refine (asc_isBlank _ _).mono ?_; rintro e w' ⟨rfl, rfl⟩)
              go_round
              case rel => exact ⟨k + 1, by omega, by omega, by go_num, HS2.out⟩
              case measure => simp [intOf] <;> omega
            · have HS2 := Lib.hid (HSK.out.trans (skipTo_stop (fun c => !isBlank c) (toL s) k st.to hkt (by rw [HL.out]; exact hto) (by rw [toL_getElem _ _ hks]; simp [hbk])))
              rw [HS2.out] at HW2
              by_cases h9 : 900 < k - a
              · have h9' : decide ((900 : Int) < (k : Int) - (a : Int)) = true := by simp; omega
                have HW3 := Lib.hid (HW2.out.trans (if_pos h9))
                go_wp2_with (go_at_call 89; refine (asc_isBlank _ _).mono ?_; rintro e w' ⟨rfl, rfl⟩)
                (with_reducible refine (prs_fail p s _ _ _ _ hP2 (by omega)).mono ?_)
                rintro e w3 ⟨rfl, hl⟩
                rw [Int.toNat_natCast] at hl
                go_wp2_with fail
                go_ret
                rw [HW3.out]
                exact ⟨rfl, hl.at_, hB2.trans hl.below⟩
              · have h9' : decide ((900 : Int) < (k : Int) - (a : Int)) = false := by simp; omega
                have HW3 := Lib.hid (HW2.out.trans (if_neg h9))
                obtain ⟨g, c, hd4, hdb, hdf, hpg, hgl, hput⟩ := hP2.last hne
                have hl0 : 0 < st.fields.length := List.length_pos_iff.2 hne
                have n1 : (0 : Int) ≤ (st.fields.length : Int) - 1 := by omega
                have n2 : (st.fields.length : Int) - 1 < (st.fields.length : Int) := by omega
                have n3 : ((st.fields.length : Int) - 1).toNat = st.fields.length - 1 := by omega
                have n4 : (1 : Int) ≤ (st.fields.length : Int) := by omega
                have n5 : IntKind.i64.wrap ((st.fields.length : Int) - 1) = (st.fields.length : Int) - 1 := IntWalk.i64_in _ (by omega)
                have HPUT := Lib.hid hput
                clear hput
                simp only at hd4 hdb hdf
                go_wp2_with (go_at_call 89; refine (asc_isBlank _ _).mono ?_; rintro e w' ⟨rfl, rfl⟩)
                go_quiet (fail)
                have hP3 := hP2.drewN nq
                have hB3 := below_drewN hB2 nq
                have hd4' : (w2.drewN nq).cell? ⟨p, 4, none⟩ = some (.slice (some ⟨g, 0, none⟩) st.fields.length c) := hd4
                have hdb' : (w2.drewN nq).cell? ⟨g, (st.fields.length - 1) * 2 + 1, none⟩ = some (.string (ofL (lastBody st.fields))) := hdb
                have hdf' : (w2.drewN nq).frozen? ⟨g, (st.fields.length - 1) * 2 + 1, none⟩ = false := hdf
                have HPUT' := Lib.hid (show ∀ b : ByteArray, PAt ((w2.drewN nq).setCell ⟨g, (st.fields.length - 1) * 2 + 1, none⟩ (.string b)) p s { st with at_ := a, fields := setLast st.fields (toL b) } from fun b => (HPUT.out b).drewN nq)
                generalize w2.drewN nq = w3 at hP3 hB3 hd4' hdb' hdf' HPUT' ⊢
                clear hd4 hdb hdf HPUT hc0 hc1 hc2 hc3 hc5 hP2 hB2 n1 n2 n3 n4 n5
                obtain ⟨hc0, hc1, hc2, hc3, hc5⟩ := hP3.cells
                have hf3 := hP3.free 3
                simp only at hc0 hc1 hc2 hc3 hc5
                obtain ⟨b, hbb⟩ : ∃ b, ofL (lastBody st.fields) = b := ⟨_, rfl⟩
                have HBB := Lib.hid (show lastBody st.fields = toL b by rw [← hbb, toL_ofL])
                rw [hbb] at hdb'
                rw [HBB.out, toL_length] at hlb
                clear hbb
                have hpg' : p ≠ g := by omega
                have hxs := extract_size s a k (by omega)
                have o1 : (a : Int) ≤ (k : Int) := by omega
                have o2 : (k : Int) ≤ (s.size : Int) := by omega
                by_cases hb0 : b.size = 0
                · have hbe : b.toList = [] := toList_nil hb0
                  have o3 : b.size + (s.extract a k).size ≤ 9223372036854775807 := by omega
                  go_wp2_with fail
                  go_region
                  have hP4 : PAt ((w3.setCell ⟨g, (st.fields.length - 1) * 2 + 1, none⟩ (.string (b ++ s.extract a k))).drew) p s { st with at_ := a, fields := setLast st.fields (toL (b ++ s.extract a k)) } := (HPUT'.out _).drew
                  have hB4 : Below p w ((w3.setCell ⟨g, (st.fields.length - 1) * 2 + 1, none⟩ (.string (b ++ s.extract a k))).drew) := (hB3.setCell (p := ⟨g, (st.fields.length - 1) * 2 + 1, none⟩) (Nat.le_of_lt hpg) _).drew
                  have HTX := Lib.hid (show toL (b ++ s.extract a k) = addWord (lastBody st.fields) (cutL (toL s) a k) by
                    rw [HBB.out, ← extract_toL]; simp [addWord, toL_nil hb0, toL_app])
                  generalize (w3.setCell ⟨g, (st.fields.length - 1) * 2 + 1, none⟩ (.string (b ++ s.extract a k))).drew = w4 at hP4 hB4 ⊢
                  clear hc0 hc1 hc2 hc3 hc5 hf3 hd4' hdb' hdf'
                  obtain ⟨hc0, hc1, hc2, hc3, hc5⟩ := hP4.cells
                  have hf3 := hP4.free 3
                  simp only at hc0 hc1 hc2 hc3 hc5
                  go_wp2_with fail
                  go_ret
                  rw [HW3.out]
                  refine ⟨rfl, ?_, hB4.setCell (p := ⟨p, 3, none⟩) (Nat.le_refl _) _⟩
                  rw [HTX.out] at hP4
                  exact hP4.set rfl (fun _ => rfl)
                · have hbe : b.toList.isEmpty = false := toList_cons hb0
                  have o3 : b.size + 1 ≤ 9223372036854775807 := by omega
                  have o4 : b.size + 1 + (s.extract a k).size ≤ 9223372036854775807 := by omega
                  go_wp2_with fail
                  go_region
                  have hP4 : PAt (((w3.setCell ⟨g, (st.fields.length - 1) * 2 + 1, none⟩ (.string (b ++ ⟨#[32]⟩))).setCell ⟨g, (st.fields.length - 1) * 2 + 1, none⟩ (.string (b ++ ⟨#[32]⟩ ++ s.extract a k))).drew) p s { st with at_ := a, fields := setLast st.fields (toL (b ++ ⟨#[32]⟩ ++ s.extract a k)) } := by
                    rw [setCell_twice]; exact (HPUT'.out _).drew
                  have hB4 : Below p w (((w3.setCell ⟨g, (st.fields.length - 1) * 2 + 1, none⟩ (.string (b ++ ⟨#[32]⟩))).setCell ⟨g, (st.fields.length - 1) * 2 + 1, none⟩ (.string (b ++ ⟨#[32]⟩ ++ s.extract a k))).drew) := ((hB3.setCell (p := ⟨g, (st.fields.length - 1) * 2 + 1, none⟩) (Nat.le_of_lt hpg) _).setCell (p := ⟨g, (st.fields.length - 1) * 2 + 1, none⟩) (Nat.le_of_lt hpg) _).drew
                  have HTX := Lib.hid (show toL (b ++ ⟨#[32]⟩ ++ s.extract a k) = addWord (lastBody st.fields) (cutL (toL s) a k) by
                    rw [HBB.out, ← extract_toL]; simp [addWord, toL_cons hb0, toL_app, toL_sp])
                  generalize ((w3.setCell ⟨g, (st.fields.length - 1) * 2 + 1, none⟩ (.string (b ++ ⟨#[32]⟩))).setCell ⟨g, (st.fields.length - 1) * 2 + 1, none⟩ (.string (b ++ ⟨#[32]⟩ ++ s.extract a k))).drew = w4 at hP4 hB4 ⊢
                  clear hc0 hc1 hc2 hc3 hc5 hf3 hd4' hdb' hdf'
                  obtain ⟨hc0, hc1, hc2, hc3, hc5⟩ := hP4.cells
                  have hf3 := hP4.free 3
                  simp only at hc0 hc1 hc2 hc3 hc5
                  go_wp2_with fail
                  go_ret
                  rw [HW3.out]
                  refine ⟨rfl, ?_, hB4.setCell (p := ⟨p, 3, none⟩) (Nat.le_refl _) _⟩
                  rw [HTX.out] at hP4
                  exact hP4.set rfl (fun _ => rfl)
          · have hEk : k = st.to := by omega
            have m1 : decide ((k : Int) < (st.to : Int)) = false := by simp; omega
            have HS2 := Lib.hid (HSK.out.trans (skipTo_end (fun c => !isBlank c) (toL s) k st.to (by omega)))
            clear hEk
            rw [HS2.out] at HW2
            by_cases h9 : 900 < k - a
            · have h9' : decide ((900 : Int) < (k : Int) - (a : Int)) = true := by simp; omega
              have HW3 := Lib.hid (HW2.out.trans (if_pos h9))
              go_wp2_with fail
              (with_reducible refine (prs_fail p s _ _ _ _ hP2 (by omega)).mono ?_)
              rintro e w3 ⟨rfl, hl⟩
              rw [Int.toNat_natCast] at hl
              go_wp2_with fail
              go_ret
              rw [HW3.out]
              exact ⟨rfl, hl.at_, hB2.trans hl.below⟩
            · have h9' : decide ((900 : Int) < (k : Int) - (a : Int)) = false := by simp; omega
              have HW3 := Lib.hid (HW2.out.trans (if_neg h9))
              obtain ⟨g, c, hd4, hdb, hdf, hpg, hgl, hput⟩ := hP2.last hne
              have hl0 : 0 < st.fields.length := List.length_pos_iff.2 hne
              have n1 : (0 : Int) ≤ (st.fields.length : Int) - 1 := by omega
              have n2 : (st.fields.length : Int) - 1 < (st.fields.length : Int) := by omega
              have n3 : ((st.fields.length : Int) - 1).toNat = st.fields.length - 1 := by omega
              have n4 : (1 : Int) ≤ (st.fields.length : Int) := by omega
              have n5 : IntKind.i64.wrap ((st.fields.length : Int) - 1) = (st.fields.length : Int) - 1 := IntWalk.i64_in _ (by omega)
              have HPUT := Lib.hid hput
              clear hput
              simp only at hd4 hdb hdf
              go_wp2_with fail
              go_quiet (fail)
              have hP3 := hP2.drewN nq
              have hB3 := below_drewN hB2 nq
              have hd4' : (w2.drewN nq).cell? ⟨p, 4, none⟩ = some (.slice (some ⟨g, 0, none⟩) st.fields.length c) := hd4
              have hdb' : (w2.drewN nq).cell? ⟨g, (st.fields.length - 1) * 2 + 1, none⟩ = some (.string (ofL (lastBody st.fields))) := hdb
              have hdf' : (w2.drewN nq).frozen? ⟨g, (st.fields.length - 1) * 2 + 1, none⟩ = false := hdf
              have HPUT' := Lib.hid (show ∀ b : ByteArray, PAt ((w2.drewN nq).setCell ⟨g, (st.fields.length - 1) * 2 + 1, none⟩ (.string b)) p s { st with at_ := a, fields := setLast st.fields (toL b) } from fun b => (HPUT.out b).drewN nq)
              generalize w2.drewN nq = w3 at hP3 hB3 hd4' hdb' hdf' HPUT' ⊢
              clear hd4 hdb hdf HPUT hc0 hc1 hc2 hc3 hc5 hP2 hB2 n1 n2 n3 n4 n5
              obtain ⟨hc0, hc1, hc2, hc3, hc5⟩ := hP3.cells
              have hf3 := hP3.free 3
              simp only at hc0 hc1 hc2 hc3 hc5
              obtain ⟨b, hbb⟩ : ∃ b, ofL (lastBody st.fields) = b := ⟨_, rfl⟩
              have HBB := Lib.hid (show lastBody st.fields = toL b by rw [← hbb, toL_ofL])
              rw [hbb] at hdb'
              rw [HBB.out, toL_length] at hlb
              clear hbb
              have hpg' : p ≠ g := by omega
              have hxs := extract_size s a k (by omega)
              have o1 : (a : Int) ≤ (k : Int) := by omega
              have o2 : (k : Int) ≤ (s.size : Int) := by omega
              by_cases hb0 : b.size = 0
              · have hbe : b.toList = [] := toList_nil hb0
                have o3 : b.size + (s.extract a k).size ≤ 9223372036854775807 := by omega
                go_wp2_with fail
                go_region
                have hP4 : PAt ((w3.setCell ⟨g, (st.fields.length - 1) * 2 + 1, none⟩ (.string (b ++ s.extract a k))).drew) p s { st with at_ := a, fields := setLast st.fields (toL (b ++ s.extract a k)) } := (HPUT'.out _).drew
                have hB4 : Below p w ((w3.setCell ⟨g, (st.fields.length - 1) * 2 + 1, none⟩ (.string (b ++ s.extract a k))).drew) := (hB3.setCell (p := ⟨g, (st.fields.length - 1) * 2 + 1, none⟩) (Nat.le_of_lt hpg) _).drew
                have HTX := Lib.hid (show toL (b ++ s.extract a k) = addWord (lastBody st.fields) (cutL (toL s) a k) by
                  rw [HBB.out, ← extract_toL]; simp [addWord, toL_nil hb0, toL_app])
                generalize (w3.setCell ⟨g, (st.fields.length - 1) * 2 + 1, none⟩ (.string (b ++ s.extract a k))).drew = w4 at hP4 hB4 ⊢
                clear hc0 hc1 hc2 hc3 hc5 hf3 hd4' hdb' hdf'
                obtain ⟨hc0, hc1, hc2, hc3, hc5⟩ := hP4.cells
                have hf3 := hP4.free 3
                simp only at hc0 hc1 hc2 hc3 hc5
                go_wp2_with fail
                go_ret
                rw [HW3.out]
                refine ⟨rfl, ?_, hB4.setCell (p := ⟨p, 3, none⟩) (Nat.le_refl _) _⟩
                rw [HTX.out] at hP4
                exact hP4.set rfl (fun _ => rfl)
              · have hbe : b.toList.isEmpty = false := toList_cons hb0
                have o3 : b.size + 1 ≤ 9223372036854775807 := by omega
                have o4 : b.size + 1 + (s.extract a k).size ≤ 9223372036854775807 := by omega
                go_wp2_with fail
                go_region
                have hP4 : PAt (((w3.setCell ⟨g, (st.fields.length - 1) * 2 + 1, none⟩ (.string (b ++ ⟨#[32]⟩))).setCell ⟨g, (st.fields.length - 1) * 2 + 1, none⟩ (.string (b ++ ⟨#[32]⟩ ++ s.extract a k))).drew) p s { st with at_ := a, fields := setLast st.fields (toL (b ++ ⟨#[32]⟩ ++ s.extract a k)) } := by
                  rw [setCell_twice]; exact (HPUT'.out _).drew
                have hB4 : Below p w (((w3.setCell ⟨g, (st.fields.length - 1) * 2 + 1, none⟩ (.string (b ++ ⟨#[32]⟩))).setCell ⟨g, (st.fields.length - 1) * 2 + 1, none⟩ (.string (b ++ ⟨#[32]⟩ ++ s.extract a k))).drew) := ((hB3.setCell (p := ⟨g, (st.fields.length - 1) * 2 + 1, none⟩) (Nat.le_of_lt hpg) _).setCell (p := ⟨g, (st.fields.length - 1) * 2 + 1, none⟩) (Nat.le_of_lt hpg) _).drew
                have HTX := Lib.hid (show toL (b ++ ⟨#[32]⟩ ++ s.extract a k) = addWord (lastBody st.fields) (cutL (toL s) a k) by
                  rw [HBB.out, ← extract_toL]; simp [addWord, toL_cons hb0, toL_app, toL_sp])
                generalize ((w3.setCell ⟨g, (st.fields.length - 1) * 2 + 1, none⟩ (.string (b ++ ⟨#[32]⟩))).setCell ⟨g, (st.fields.length - 1) * 2 + 1, none⟩ (.string (b ++ ⟨#[32]⟩ ++ s.extract a k))).drew = w4 at hP4 hB4 ⊢
                clear hc0 hc1 hc2 hc3 hc5 hf3 hd4' hdb' hdf'
                obtain ⟨hc0, hc1, hc2, hc3, hc5⟩ := hP4.cells
                have hf3 := hP4.free 3
                simp only at hc0 hc1 hc2 hc3 hc5
                go_wp2_with fail
                go_ret
                rw [HW3.out]
                refine ⟨rfl, ?_, hB4.setCell (p := ⟨p, 3, none⟩) (Nat.le_refl _) _⟩
                rw [HTX.out] at hP4
                exact hP4.set rfl (fun _ => rfl)
      · have HST := Lib.hid (HSK.out.trans (skipTo_step isBlank (toL s) a st.to hlt (by rw [HL.out]; exact hto) (by rw [toL_getElem _ _ hlts]; exact hb)))
        go_wp2_with fail
        go_quiet ((go_at_call 89; exact quiet_left' (asc_isBlank _ _)))
        go_wp2_with fail
        go_roundg (st.to - (a + 1))
        case measure => omega
        case rel =>
          refine ⟨a + 1, rfl, by omega, HST.out, (hP.drewN nq).set rfl (fun _ => ?_), (below_drewN hB nq).setCell (p := ⟨p, 3, none⟩) (Nat.le_refl _) _⟩
          simp
    · have hEq : a = st.to := by omega
      subst hEq
      have l1 : decide ((st.to : Int) < (st.to : Int)) = false := by simp
      have l5 : ((st.to : Int) == (st.to : Int)) = true := by simp
      have HST := Lib.hid (HSK.out.trans (skipTo_end isBlank (toL s) st.to st.to (Nat.le_refl _)))
      have HW2 := Lib.hid (hw.out.trans (if_pos HST.out))
      go_wp2_with fail
      go_quiet (fail)
      go_wp2_with fail
      go_quiet (fail)
      go_wp2_with fail
      go_ret
      rw [HW2.out]
      exact ⟨rfl, (hP.drewN _).drewN _, below_drewN (below_drewN hB _) _⟩

end Go.Proofs.Ytcohgjdijhogbaa

namespace Go.Proofs.Ytcohgjdijhogbaa
set_option linter.unusedSimpArgs false
set_option linter.unusedVariables false
open Go.RowKit

theorem pWords_succ (n : Nat) (l : List UInt8) (st : PSt) : pWords (n + 1) l st = if (pWord l st).1 = true then pWords n l (pWord l st).2 else (pWord l st).2 := rfl
theorem PLeft.trans {w w' w'' : World} {p : Nat} {s : ByteArray} {st st' : PSt} (h : PLeft w w' p s st) (k : PLeft w' w'' p s st') : PLeft w w'' p s st' := ⟨k.at_, h.below.trans k.below⟩

set_option maxHeartbeats 4000000 in
set_option maxRecDepth 100000 in
theorem prs_body_bad (p : Nat) (s : ByteArray) (st : PSt) (w : World) (h : PAt w p s st) (he : st.e ≠ 0) :
    Calls Try.prog 73 #[.pointer (some ⟨p, 0, none⟩)] w fun e w' => e = .returned (.tuple #[]) ∧ PLeft w w' p s st := by
  have he' : (st.e == 0) = false := by simpa using he
  go_enter Try.func73, Try.ntmps73
  go_wp2_with fail
  go_loopg [2] 1 (fun _ _ wr => PAt wr p s st ∧ Below p w wr)
  case atStart => exact ⟨h, Below.refl _ _⟩
  case round =>
    obtain ⟨hP, hB⟩ := hrel
    have HE := Lib.hid he
    clear he
    go_wp2_with fail
    (with_reducible refine (prs_word_bad p s st _ hP HE.out).mono ?_)
    rintro e w1 ⟨rfl, hl⟩
    obtain ⟨hc0, hc1, hc2, hc3, hc5⟩ := hl.at_.cells
    go_wp2_with fail
    go_quiet (fail)
    go_wp2_with fail
    go_end0
    exact ⟨rfl, hl.at_.drewN _, below_drewN (hB.trans hl.below) _⟩

set_option maxHeartbeats 4000000 in
set_option maxRecDepth 100000 in
theorem prs_body_ok (p : Nat) (s : ByteArray) (st : PSt) (w : World) (h : PAt w p s st) (he : st.e = 0) (hs : s.size ≤ 1000000) (hat : st.at_ ≤ st.to) (hto : st.to ≤ s.size) (hne : st.fields ≠ []) (hn64 : st.fields.length ≤ 64) (hlb : (lastBody st.fields).length ≤ 900000) :
    Calls Try.prog 73 #[.pointer (some ⟨p, 0, none⟩)] w fun e w' => e = .returned (.tuple #[]) ∧ PLeft w w' p s (pBody (toL s) st) := by
  have HL := Lib.hid (toL_length s)
  go_enter Try.func73, Try.ntmps73
  go_wp2_with fail
  go_loopg [2] (s.size + 1) (fun g _ wr => ∃ st', pWords (s.size + 1) (toL s) st = pWords g (toL s) st' ∧ st'.e = 0 ∧ st'.at_ ≤ st'.to ∧ st'.to = st.to ∧ st'.fields.length = st.fields.length ∧ (lastBody st'.fields).length ≤ 900000 + 2 * st'.at_ ∧ st'.to - st'.at_ < g ∧ PAt wr p s st' ∧ Below p w wr)
  case atStart => exact ⟨st, rfl, he, hat, rfl, rfl, by omega, by omega, h, Below.refl _ _⟩
  case round =>
    obtain ⟨st', hq, he1, ha1, ht1, hf1, hb1, hm, hP, hB⟩ := hrel
    obtain ⟨m, rfl⟩ : ∃ m, gk = m + 1 := ⟨gk - 1, by omega⟩
    have hne1 : st'.fields ≠ [] := fun e => by rw [e] at hf1; exact hne (List.eq_nil_of_length_eq_zero hf1.symm)
    have HW := Lib.hid (prs_word_ok p s st' wr hP he1 hs ha1 (by omega) hne1 (by omega) (by omega))
    rw [pWords_succ m (toL s) st'] at hq
    have HQ := Lib.hid hq
    have hft := pWord_true (toL s) st' ha1 (by rw [HL.out]; omega) hne1
    have hff := pWord_false (toL s) st'
    generalize pWord (toL s) st' = r at *
    obtain ⟨r1, r2⟩ := r
    have HT := Lib.hid hft; have HFF := Lib.hid hff
    have HX := Lib.hid (And.intro (And.intro he1 ht1) (And.intro hf1 hb1))
    clear hft hff hq he1 ht1 hf1 hb1 he
    rcases r1 with _ | _
    · obtain ⟨hr1, hr2, hr3⟩ := HFF.out rfl
      simp only at hr1 hr2 hr3
      have HR := Lib.hid (And.intro hr1 (And.intro hr2 hr3))
      clear hr1 hr2 hr3
      go_wp2_with fail
      (with_reducible refine HW.out.mono ?_)
      rintro e w1 ⟨rfl, hl⟩
      have HB := Lib.hid (show pBody (toL s) st = if r2.e = 0 ∧ 8192 < (lastBody r2.fields).length then pFail r2 r2.frm 5 else r2 by
        have := HQ.out.trans (if_neg (by simp))
        unfold pBody; rw [HL.out, this])
      obtain ⟨hr1, hr2, hr3⟩ := HR.out
      have hner : r2.fields ≠ [] := by rw [hr1]; exact hne1
      have hnl : r2.fields.length ≤ 64 := by rw [hr1, HX.out.2.1]; exact hn64
      have hl0 : 0 < r2.fields.length := List.length_pos_iff.2 hner
      have hlr : (lastBody r2.fields).length ≤ 3000000 := by rw [hr1]; have := HX.out.2.2; have := HX.out.1.2; omega
      clear hr1 hr2 hr3
      have hP1 := hl.at_
      have hB1 := hB.trans hl.below
      clear hl hP hB
      obtain ⟨hc0, hc1, hc2, hc3, hc5⟩ := hP1.cells
      obtain ⟨g, c, hd4, hdb, hdf, hpg, hgl, hput⟩ := hP1.last hner
      obtain ⟨b, hbb⟩ : ∃ b, ofL (lastBody r2.fields) = b := ⟨_, rfl⟩
      have HBB := Lib.hid (show lastBody r2.fields = toL b by rw [← hbb, toL_ofL])
      rw [hbb] at hdb
      rw [HBB.out, toL_length] at hlr HB
      clear hbb hput
      by_cases her : r2.e = 0
      · have her' : (r2.e == 0) = true := by simpa using her
        have n1 : (0 : Int) ≤ (r2.fields.length : Int) - 1 := by omega
        have n2 : (r2.fields.length : Int) - 1 < (r2.fields.length : Int) := by omega
        have n3 : ((r2.fields.length : Int) - 1).toNat = r2.fields.length - 1 := by omega
        have n4 : (1 : Int) ≤ (r2.fields.length : Int) := by omega
        have n5 : IntKind.i64.wrap ((r2.fields.length : Int) - 1) = (r2.fields.length : Int) - 1 := IntWalk.i64_in _ (by omega)
        by_cases h8 : 8192 < b.size
        · have h8' : decide ((8192 : Int) < (b.size : Int)) = true := by simp; omega
          have HB2 := Lib.hid (HB.out.trans (if_pos ⟨her, h8⟩))
          clear her
          go_wp2_with fail
          go_quiet (fail)
          have hP2 := hP1.drewN nq
          have hB2 := below_drewN hB1 nq
          have hc1' : (w1.drewN nq).cell? ⟨p, 1, none⟩ = some (.int .i64 r2.frm) := hc1
          generalize w1.drewN nq = w2 at hP2 hB2 hc1' ⊢
          clear n1 n2 n3 n4 n5
          go_wp2_with fail
          (with_reducible refine (prs_fail p s r2 _ _ _ hP2 (by omega)).mono ?_)
          rintro e w3 ⟨rfl, hl⟩
          rw [Int.toNat_natCast] at hl
          go_wp2_with fail
          go_end0
          rw [HB2.out]
          exact ⟨rfl, hl.at_, hB2.trans hl.below⟩
        · have h8' : decide ((8192 : Int) < (b.size : Int)) = false := by simp; omega
          have HB2 := Lib.hid (HB.out.trans (if_neg (fun h => h8 h.2)))
          clear her
          go_wp2_with fail
          go_quiet (fail)
          have hP2 := hP1.drewN nq
          have hB2 := below_drewN hB1 nq
          clear n1 n2 n3 n4 n5
          go_wp2_with fail
          go_end0
          rw [HB2.out]
          exact ⟨rfl, hP2, hB2⟩
      · have her' : (r2.e == 0) = false := by simpa using her
        have HB2 := Lib.hid (HB.out.trans (if_neg (fun h => her h.1)))
        clear her
        go_wp2_with fail
        go_quiet (fail)
        go_wp2_with fail
        go_end0
        rw [HB2.out]
        exact ⟨rfl, hP1.drewN _, below_drewN hB1 _⟩
    · obtain ⟨_, hr1, hr2, hr3, hr4, hr5, hr6, hr7⟩ := HT.out rfl
      simp only at hr1 hr2 hr3 hr4 hr5 hr6 hr7
      have HR := Lib.hid (And.intro hr1 (And.intro hr2 (And.intro hr3 (And.intro hr4 (And.intro hr5 (And.intro hr6 hr7))))))
      clear hr1 hr2 hr3 hr4 hr5 hr6 hr7
      go_wp2_with fail
      (with_reducible refine HW.out.mono ?_)
      rintro e w1 ⟨rfl, hl⟩
      go_wp2_with fail
      go_roundg m
      case measure => omega
      case rel =>
        obtain ⟨hr1, hr2, hr3, hr4, hr5, hr6, hr7⟩ := HR.out
        obtain ⟨⟨he1, ht1⟩, hf1, hb1⟩ := HX.out
        have := HQ.out.trans (if_pos (by simp))
        exact ⟨r2, this, hr1, by omega, by omega, by omega, by omega, by omega, hl.at_, hB.trans hl.below⟩

end Go.Proofs.Ytcohgjdijhogbaa

namespace Go.Proofs.Ytcohgjdijhogbaa
set_option linter.unusedSimpArgs false
set_option linter.unusedVariables false
open Go.RowKit

def parseF (l : List UInt8) : List Fd × Int × Int := parseV validName l

def ParsePost (s : ByteArray) (w : World) (e : Ending) (w' : World) : Prop :=
  ∃ v, e = .returned (.tuple #[v, .int .i64 (parseF (toL s)).2.1, .int .i64 (parseF (toL s)).2.2]) ∧ w'.ownsRow w.heap.size 59 2 v (parseF (toL s)).1.length (fldsV (parseF (toL s)).1) ∧ Below w.heap.size w w'

/-- What holds at the head of each round. -/
def PInv (l : List UInt8) (st : PSt) : Prop := st.to ≤ l.length ∧ (st.e = 0 → st.fields.length ≤ 64 ∧ (lastBody st.fields).length ≤ 8192)

theorem prs_body (p : Nat) (s : ByteArray) (st : PSt) (w : World) (h : PAt w p s st) (hs : s.size ≤ 1000000) (hpre : st.e = 0 → st.at_ ≤ st.to ∧ st.to ≤ s.size ∧ st.fields ≠ [] ∧ st.fields.length ≤ 64 ∧ (lastBody st.fields).length ≤ 900000) :
    Calls Try.prog 73 #[.pointer (some ⟨p, 0, none⟩)] w fun e w' => e = .returned (.tuple #[]) ∧ PLeft w w' p s (pBody (toL s) st) := by
  by_cases he : st.e = 0
  · obtain ⟨h1, h2, h3, h4, h5⟩ := hpre he
    exact prs_body_ok p s st w h he hs h1 h2 h3 h4 h5
  · rw [pBody_bad _ _ he]
    exact prs_body_bad p s st w h he

/-- One round's state after line and name. -/
theorem round_pre (l : List UInt8) (st : PSt) (frm : Nat) (hf : frm ≤ l.length) (hi : PInv l st) :
    ((pLine l st frm).e = 0 → (pLine l st frm).frm ≤ (pLine l st frm).to ∧ (pLine l st frm).to ≤ l.length ∧ (pLine l st frm).fields.length ≤ 64) ∧
    ((pName validName l (pLine l st frm)).e = 0 → (pName validName l (pLine l st frm)).at_ ≤ (pName validName l (pLine l st frm)).to ∧ (pName validName l (pLine l st frm)).to ≤ l.length ∧ (pName validName l (pLine l st frm)).fields ≠ [] ∧ (pName validName l (pLine l st frm)).fields.length ≤ 64 ∧ (lastBody (pName validName l (pLine l st frm)).fields).length ≤ 8192) ∧
    PInv l (pStep validName l st frm) ∧ ((pStep validName l st frm).e = 0 → frm ≤ (pStep validName l st frm).to) := by
  obtain ⟨ht, he⟩ := hi
  have hlt := pLine_to l st frm hf ht
  have hA : (pLine l st frm).e = 0 → (pLine l st frm).frm ≤ (pLine l st frm).to ∧ (pLine l st frm).to ≤ l.length ∧ (pLine l st frm).fields.length ≤ 64 ∧ (pLine l st frm).at_ ≤ (pLine l st frm).to ∧ (lastBody (pLine l st frm).fields).length ≤ 8192 := fun h0 => by
    obtain ⟨h1, h2, h3, h4⟩ := pLine_ok l st frm hf h0
    have := he h1
    rw [h4]
    simp only
    omega
  have hB : (pName validName l (pLine l st frm)).e = 0 → (pName validName l (pLine l st frm)).at_ ≤ (pName validName l (pLine l st frm)).to ∧ (pName validName l (pLine l st frm)).to ≤ l.length ∧ (pName validName l (pLine l st frm)).fields ≠ [] ∧ (pName validName l (pLine l st frm)).fields.length ≤ 64 ∧ (lastBody (pName validName l (pLine l st frm)).fields).length ≤ 8192 := fun h0 => by
    have hl0 : (pLine l st frm).e = 0 := by
      by_cases h : (pLine l st frm).e = 0
      · exact h
      · unfold pName at h0; rw [if_pos h] at h0; exact absurd h0 h
    obtain ⟨a1, a2, a3, a4, a5⟩ := hA hl0
    obtain ⟨b1, b2, b3, b4, b5⟩ := pName_ok validName l (pLine l st frm) a1 a2 a4 a3 a5 h0
    have := pName_to validName l (pLine l st frm)
    exact ⟨by omega, by omega, b3, b4, b5⟩
  refine ⟨fun h => ⟨(hA h).1, (hA h).2.1, (hA h).2.2.1⟩, hB, ?_⟩
  unfold pStep
  by_cases h0 : (pName validName l (pLine l st frm)).e = 0
  · obtain ⟨c1, c2, c3, c4, c5⟩ := hB h0
    obtain ⟨d1, d2, d3, d4⟩ := pBody_keep l _ c1 c2 c3
    refine ⟨⟨by omega, fun e => ⟨by omega, d4 e⟩⟩, fun _ => ?_⟩
    have hl0 : (pLine l st frm).e = 0 := by
      by_cases h : (pLine l st frm).e = 0
      · exact h
      · unfold pName at h0; rw [if_pos h] at h0; exact absurd h0 h
    rw [d1, pName_to, (pLine_ok l st frm hf hl0).2.2.2]
    simp only
    omega
  · rw [pBody_bad _ _ h0]
    exact ⟨⟨by rw [pName_to]; exact hlt.1, fun e => absurd e h0⟩, fun e => absurd e h0⟩

set_option maxHeartbeats 4000000 in
set_option maxRecDepth 100000 in
theorem fld_parse (s : ByteArray) (w : World) (hs : s.size ≤ 1000000) : Calls Try.prog 63 #[.string s] w (ParsePost s w) := by
  have HL := Lib.hid (toL_length s)
  by_cases h6 : 65536 < s.size
  · have h6' : decide ((65536 : Int) < (s.size : Int)) = true := by simp; omega
    have H := Lib.hid (show parseF (toL s) = ([], 65536, 5) by unfold parseF parseV; rw [HL.out, if_pos h6])
    go_enter Try.func63, Try.ntmps63
    go_wp2_with fail
    go_ret3
    refine ⟨.slice none 0 0, ?_, ?_, Below.refl _ _⟩
    · rw [H.out]; rfl
    · rw [H.out]; exact World.ownsRow_nil _ _ _ _
  · have h6' : decide ((65536 : Int) < (s.size : Int)) = false := by simp; omega
    have H := Lib.hid (show parseF (toL s) = _ from (by unfold parseF parseV; rw [if_neg (by rw [HL.out]; exact h6), HL.out]))
    have h0 : PAt (w.alloc (.cells #[.string s, .int .i64 0, .int .i64 0, .int .i64 0, .slice none 0 0, .int .i64 0] 117)) w.heap.size s pInit := ⟨_, heap_alloc_new w _, World.ownsRow_nil _ _ _ _⟩
    go_enter Try.func63, Try.ntmps63
    go_wp2_with fail
    go_loopg [6] (s.size + 1) (fun g v wr => ∃ (frm : Nat) (st : PSt), v = .int .i64 frm ∧ frm ≤ s.size + 1 ∧ pLoop validName (s.size + 1) (toL s) pInit 0 = pLoop validName g (toL s) st frm ∧ PInv (toL s) st ∧ (st.e = 0 → s.size < g + frm) ∧ PAt wr w.heap.size s st ∧ Below w.heap.size w wr)
    case atStart => exact ⟨0, pInit, rfl, by omega, rfl, ⟨by simp [pInit], fun _ => ⟨by simp [pInit], by simp [pInit, lastBody]⟩⟩, fun _ => by omega, h0, (Below.refl _ _).alloc (Nat.le_refl _) _⟩
    case round =>
      obtain ⟨frm, st, rfl, hfr, hlp, hinv, hg, hP, hB⟩ := hrel
      obtain ⟨hc0, hc1, hc2, hc3, hc5⟩ := hP.cells
      have HI := Lib.hid hinv; clear hinv
      have HLP := Lib.hid hlp; clear hlp
      by_cases hlt : frm < s.size
      · by_cases he : st.e = 0
        · have he' : (st.e == 0) = true := by simpa using he
          obtain ⟨m, rfl⟩ : ∃ m, gk = m + 1 := ⟨gk - 1, by have := hg he; omega⟩
          have HLP2 := Lib.hid (HLP.out.trans (if_pos ⟨by rw [HL.out]; exact hlt, he⟩))
          have HR := Lib.hid (round_pre (toL s) st frm (by rw [HL.out]; omega) HI.out)
          have hgg : s.size < m + 1 + frm := hg he
          clear he HLP hg
          go_wp2_with fail
          (with_reducible refine (prs_line _ s st frm wr hP hs (by omega)).mono ?_)
          rintro e w1 ⟨rfl, hl1⟩
          go_wp2_with fail
          (with_reducible refine (prs_name _ s _ w1 hl1.at_ hs (by have := HR.out.1; rw [HL.out] at this; exact this)).mono ?_)
          rintro e w2 ⟨rfl, hl2⟩
          go_wp2_with fail
          (with_reducible refine (prs_body _ s _ w2 hl2.at_ hs ?hpre).mono ?_)
          case hpre =>
            have := HR.out.2.1
            rw [HL.out] at this
            intro h0
            have := this h0
            exact ⟨this.1, this.2.1, this.2.2.1, this.2.2.2.1, by omega⟩
          rintro e w3 ⟨rfl, hl3⟩
          have hB3 := hB.trans (hl1.below.trans (hl2.below.trans hl3.below))
          have hP3 : PAt w3 w.heap.size s (pStep validName (toL s) st frm) := hl3.at_
          have HR2 := Lib.hid HR.out.2.2
          clear hl1 hl2 hl3 hP hB hc0 hc1 hc2 hc3 hc5 HR HI
          generalize pStep validName (toL s) st frm = st2 at *
          have ht2 : st2.to ≤ s.size := by have := HR2.out.1.1; rw [HL.out] at this; exact this
          obtain ⟨hc0, hc1, hc2, hc3, hc5⟩ := hP3.cells
          go_wp2_with fail
          go_roundg m
          case measure => omega
          case rel => exact ⟨st2.to + 1, st2, by go_num, by omega, HLP2.out, HR2.out.1, fun h => by have := HR2.out.2 h; omega, hP3, hB3⟩
        · have he' : (st.e == 0) = false := by simpa using he
          have he2 : (st.e != 0) = true := by simpa using he
          have HST := Lib.hid (show pLoop validName (s.size + 1) (toL s) pInit 0 = st from HLP.out.trans (by cases gk with | zero => rfl | succ n => exact if_neg (fun h => he h.2)))
          have H2 := Lib.hid (show parseF (toL s) = ([], (st.at_ : Int), st.e) by rw [H.out, HST.out, if_pos he])
          clear he HLP hg
          go_wp2_with fail
          go_quiet (fail)
          go_wp2_with fail
          go_ret3
          refine ⟨.slice none 0 0, ?_, ?_, below_drewN hB _⟩
          · rw [H2.out]; rfl
          · rw [H2.out]; exact World.ownsRow_nil _ _ _ _
      · have HST := Lib.hid (show pLoop validName (s.size + 1) (toL s) pInit 0 = st from HLP.out.trans (by cases gk with | zero => rfl | succ n => exact if_neg (fun h => hlt (by have := h.1; rw [HL.out] at this; exact this))))
        by_cases he : st.e = 0
        · have he2 : (st.e != 0) = false := by simpa using he
          have H2 := Lib.hid (show parseF (toL s) = (st.fields, 0, 0) by rw [H.out, HST.out, if_neg (by simp [he])])
          obtain ⟨v, hh, hown⟩ := hP
          have hc4 : wr.cell? ⟨w.heap.size, 4, none⟩ = some v := by rw [Lib.cell_of_heap hh]; rfl
          clear he HLP hg hh
          go_wp2_with fail
          go_ret3
          refine ⟨v, ?_, ?_, hB⟩
          · rw [H2.out]; rfl
          · rw [H2.out]; exact own_mono hown (by omega)
        · have he2 : (st.e != 0) = true := by simpa using he
          have H2 := Lib.hid (show parseF (toL s) = ([], (st.at_ : Int), st.e) by rw [H.out, HST.out, if_pos he])
          clear he HLP hg
          go_wp2_with fail
          go_quiet (fail)
          go_wp2_with fail
          go_ret3
          refine ⟨.slice none 0 0, ?_, ?_, below_drewN hB _⟩
          · rw [H2.out]; rfl
          · rw [H2.out]; exact World.ownsRow_nil _ _ _ _

end Go.Proofs.Ytcohgjdijhogbaa
