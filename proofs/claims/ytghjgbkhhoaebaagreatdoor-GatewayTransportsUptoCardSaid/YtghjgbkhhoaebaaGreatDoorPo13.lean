/- Lemmas and walks, part 13. -/
import Derived.Test.YtghjgbkhhoaebaaGreatDoorPo12
import Derived.Test.YtghjgbkhhoaebaaGreatDoorShelf
import Derived.Lib.AppendIntMem
import Derived.Lib.SmallJoins
import Derived.Deep.RegionHeld3
import Derived.Test.YtghjgbkhhoaebaaGreatDoorPo4
namespace Go.Proofs.YtghjgbkhhoaebaaGreatDoor
set_option linter.unusedSimpArgs false
set_option linter.unusedVariables false
open Go.RowKit Go.Joins
open Go.Lib (decDigits)

/-- The library's table of powers of ten lies there. -/
def TabN (w : World) : Prop := Lib.TabIs Tryz.prog w "internal/strconv.uint64pow10" .u64 Lib.pow10Tab
theorem TabN.below {w w' : World} (h : TabN w) (hb : Below w.heap.size w w') : TabN w' := Lib.tabBelow_of_tabIs h w' hb
theorem asc_digits (n : Nat) (hn : n < 9223372036854775808) (w : World) (ht : TabN w) : Calls Tryz.prog 48 #[.int .i64 (n : Int)] w fun e w' => e = .returned (.string (ofL (decDigits n))) ∧ Below w.heap.size w w' := by
  have hI := Tryz.strconv_Itoa (n : Int) (by omega) (by omega) w ht
  have hV : (⟨(Lib.itoa (n : Int)).toArray⟩ : ByteArray) = ofL (decDigits n) := by
    unfold Lib.itoa; rw [if_neg (by omega)]; rfl
  rw [hV] at hI
  have HI := Lib.hid hI
  clear hI hV
  go_enter Tryz.func48, Tryz.ntmps48
  go_wp2_with fail
  (with_reducible refine HI.out.mono ?_)
  rintro e w1 ⟨rfl, k, os, rfl⟩
  go_wp2_with fail
  go_ret
  exact ⟨rfl, Lib.below_grow _ _ (Nat.le_refl _) _ _⟩
theorem show_str (m : Nat) (n t : ByteArray) : ((((⟨#[91]⟩ ++ ofL (decDigits m)) ++ ⟨#[93, 32, 60]⟩) ++ n) ++ ⟨#[62, 32]⟩) ++ t = ofL (showL m (toL n) (toL t)) := by
  have e1 : (⟨#[91]⟩ : ByteArray) = ofL [91] := rfl
  have e2 : (⟨#[93, 32, 60]⟩ : ByteArray) = ofL [93, 32, 60] := rfl
  have e3 : (⟨#[62, 32]⟩ : ByteArray) = ofL [62, 32] := rfl
  conv => lhs; rw [← ofL_toL n, ← ofL_toL t]
  rw [e1, e2, e3, ofL_append, ofL_append, ofL_append, ofL_append, ofL_append]
  congr 1
  simp [showL]
/-- The cells of a line in a box of its own. -/
def LnP (w0 : World) (b : Nat) (m : Int) (n t : ByteArray) (w' : World) : Prop := w'.cell? ⟨b, 0, none⟩ = some (.int .i64 m) ∧ w'.cell? ⟨b, 1, none⟩ = some (.string n) ∧ w'.cell? ⟨b, 2, none⟩ = some (.string t) ∧ Below w0.heap.size w0 w'
theorem LnP.later {w0 w w' : World} {b : Nat} {m : Int} {n t : ByteArray} (h : LnP w0 b m n t w) (hb : Below w.heap.size w w') : LnP w0 b m n t w' :=
  ⟨(hb.cell (World.block_lt_of_cell? _ _ h.1)).trans h.1, (hb.cell (World.block_lt_of_cell? _ _ h.2.1)).trans h.2.1, (hb.cell (World.block_lt_of_cell? _ _ h.2.2.1)).trans h.2.2.1, h.2.2.2.trans (hb.mono h.2.2.2.size)⟩
theorem LnP.new (w : World) (m : Int) (n t : ByteArray) (T : TypeId) : LnP w w.heap.size m n t (w.alloc (.cells #[.int .i64 m, .string n, .string t] T)) :=
  ⟨by rw [Lib.cell_of_heap (heap_alloc_new w _)]; rfl, by rw [Lib.cell_of_heap (heap_alloc_new w _)]; rfl, by rw [Lib.cell_of_heap (heap_alloc_new w _)]; rfl, (Below.refl _ _).alloc (Nat.le_refl _) _⟩
theorem LnP.drew {w0 w : World} {b : Nat} {m : Int} {n t : ByteArray} (h : LnP w0 b m n t w) : LnP w0 b m n t w.drew := ⟨h.1, h.2.1, h.2.2.1, h.2.2.2.drew⟩

set_option maxHeartbeats 2000000 in
set_option maxRecDepth 100000 in
theorem gw_print (m : Nat) (hm : m < 9223372036854775808) (n t : ByteArray) (hn : n.size ≤ 1000000) (ht : t.size ≤ 1000000) (w : World) (hw : TabN w) : Calls Tryz.prog 46 #[.agg #[.int .i64 (m : Int), .string n, .string t]] w fun e w' => e = .returned (.string (ofL (showL m (toL n) (toL t)))) ∧ Below w.heap.size w w' := by
  have HS := Lib.hid (show_str m n t)
  have hd : (ofL (decDigits m)).size ≤ 20 := by rw [ofL_size]; exact dec_len_lt 19 _ (by omega)
  have H0 := Lib.hid (LnP.new w m n t 39).drew
  have H1 := Lib.hid (fun wx (hx : LnP w w.heap.size m n t wx) => asc_digits m hm wx (hw.below hx.2.2.2))
  generalize ofL (decDigits m) = D at *
  go_enter Tryz.func46, Tryz.ntmps46
  go_wp2_with fail
  go_region_held (fun w' => w'.cell? ⟨w.heap.size, 0, none⟩ = some (.int .i64 (m : Int)) ∧ w'.cell? ⟨w.heap.size, 1, none⟩ = some (.string n) ∧ w'.cell? ⟨w.heap.size, 2, none⟩ = some (.string t) ∧ Below w.heap.size w w')
    (first
      | exact H0.out
      | exact LnP.later (by assumption) hb1)
    ((go_at_call 48; (with_reducible refine (H1.out _ ?hh).mono ?_); (case hh => assumption); rintro e w1 ⟨rfl, hb1⟩))
  all_goals
    have HF := Lib.hid (show LnP w w.heap.size m n t _ by assumption)
    go_wp2_with fail
    go_ret
    exact ⟨by rw [← HS.out]; rfl, HF.out.2.2.2⟩
set_option maxHeartbeats 2000000 in
set_option maxRecDepth 100000 in
theorem lw_show (m : Nat) (hm : m < 9223372036854775808) (n t : ByteArray) (hn : n.size ≤ 1000000) (ht : t.size ≤ 1000000) (w : World) : Calls Tryz.prog 116 #[.agg #[.int .i64 (m : Int), .string n, .string t]] w fun e w' => e = .returned (.string (ofL (showL m (toL n) (toL t)))) ∧ Below w.heap.size w w' := by
  have HS := Lib.hid (show_str m n t)
  have hd : (ofL (decDigits m)).size ≤ 20 := by rw [ofL_size]; exact dec_len_lt 19 _ (by omega)
  have H0 := Lib.hid (LnP.new w m n t 39).drew
  have H1 := Lib.hid (fun wx (hx : LnP w w.heap.size m n t wx) => ref_digits m hm wx)
  generalize ofL (decDigits m) = D at *
  go_enter Tryz.func116, Tryz.ntmps116
  go_wp2_with fail
  go_region_held (fun w' => w'.cell? ⟨w.heap.size, 0, none⟩ = some (.int .i64 (m : Int)) ∧ w'.cell? ⟨w.heap.size, 1, none⟩ = some (.string n) ∧ w'.cell? ⟨w.heap.size, 2, none⟩ = some (.string t) ∧ Below w.heap.size w w')
    (first
      | exact H0.out
      | exact LnP.later (by assumption) hb1)
    ((go_at_call 40; (with_reducible refine (H1.out _ ?hh).mono ?_); (case hh => assumption); rintro e w1 ⟨rfl, hb1⟩))
  all_goals
    have HF := Lib.hid (show LnP w w.heap.size m n t _ by assumption)
    go_wp2_with fail
    go_ret
    exact ⟨by rw [← HS.out]; rfl, HF.out.2.2.2⟩
/-- Printing: the text, or the error. -/
def prlF (m : Int) (n t : Bs) : Bs × Int := if lineE m n t = 0 then (showL m.toNat n t, 0) else ([], lineE m n t)
theorem lineE_min {m : Int} {n t : Bs} (h : lineE m n t = 0) : 0 ≤ m ∧ m ≤ 105190559 := by
  unfold lineE at h
  split at h
  · cases h
  · rename_i g; simp [minB] at g; omega
set_option maxHeartbeats 2000000 in
set_option maxRecDepth 100000 in
theorem gw_printLine (m : Int) (n t : ByteArray) (hn : n.size ≤ 1000000) (ht : t.size ≤ 900000) (w : World) (hw : TabN w) : Calls Tryz.prog 31 #[.agg #[.int .i64 m, .string n, .string t]] w fun e w' => e = .returned (.tuple #[.string (ofL (prlF m (toL n) (toL t)).1), .int .i64 (prlF m (toL n) (toL t)).2]) ∧ Below w.heap.size w w' := by
  have HV := Lib.hid (show prlF m (toL n) (toL t) = if lineE m (toL n) (toL t) = 0 then (showL m.toNat (toL n) (toL t), 0) else ([], lineE m (toL n) (toL t)) from rfl)
  have H0 := Lib.hid (LnP.new w m n t 39)
  have HC := Lib.hid (gw_check m n t (w.alloc (.cells #[.int .i64 m, .string n, .string t] 39)) (by unfold maxLen; omega) ht)
  by_cases h : lineE m (toL n) (toL t) = 0
  · obtain ⟨m0, m1⟩ := lineE_min h
    obtain ⟨k, rfl⟩ : ∃ k : Nat, m = (k : Int) := ⟨m.toNat, by omega⟩
    rw [if_pos h] at HV
    rw [h] at HC
    have HP := Lib.hid (fun wx hx => gw_print k (by omega) n t hn (by omega) wx hx)
    clear h
    go_enter Tryz.func31, Tryz.ntmps31
    go_wp2_with fail
    (with_reducible refine HC.out.mono ?_)
    rintro e w1 ⟨rfl, hb1⟩
    have H1 := Lib.hid (H0.out.later hb1)
    obtain ⟨k0, k1, k2, hbw1⟩ := H1.out
    have HBW1 := Lib.hid hbw1; clear hbw1
    clear hb1 HC
    go_wp2_with fail
    (with_reducible refine (HP.out _ (hw.below HBW1.out)).mono ?_)
    rintro e w2 ⟨rfl, hb2⟩
    have H2 := Lib.hid (H1.out.later hb2)
    clear hb2 k0 k1 k2
    go_wp2_with fail
    go_ret2
    obtain ⟨_, _, _, hbw2⟩ := H2.out
    exact ⟨by rw [HV.out]; rfl, hbw2⟩
  · rw [if_neg h] at HV
    have e1 : (lineE m (toL n) (toL t) != 0) = true := by simp [bne, h]
    clear h
    generalize lineE m (toL n) (toL t) = er at *
    go_enter Tryz.func31, Tryz.ntmps31
    go_wp2_with fail
    (with_reducible refine HC.out.mono ?_)
    rintro e w1 ⟨rfl, hb1⟩
    have H1 := Lib.hid (H0.out.later hb1)
    clear hb1 HC
    go_wp2_with fail
    go_ret2
    obtain ⟨_, _, _, hbw2⟩ := H1.out
    exact ⟨by rw [HV.out]; rfl, hbw2⟩
end Go.Proofs.YtghjgbkhhoaebaaGreatDoor

namespace Go.Proofs.YtghjgbkhhoaebaaGreatDoor
set_option linter.unusedSimpArgs false
set_option linter.unusedVariables false
open Go.RowKit

theorem skip_dig (L : Bs) : L.all digB = decide (¬ skipFrom isDigit L 0 < L.length) := by
  have : skipFrom isDigit L 0 = (L.takeWhile digB).length := by unfold skipFrom; simp; rfl
  rw [this]
  induction L with
  | nil => rfl
  | cons c r ih =>
    rw [List.all_cons, List.takeWhile_cons]
    cases h : digB c with
    | false => simp
    | true =>
      rw [if_pos rfl, ih (by unfold skipFrom; simp; rfl), Bool.true_and]
      simp
theorem valD_take_le (L : Bs) (k : Nat) : valD (L.take k) ≤ valD L := by
  have main : ∀ (B A : Bs), valD A ≤ valD (A ++ B) := by
    intro B
    induction B with
    | nil => intro A; simp
    | cons c r ih =>
      intro A
      have h1 := ih (A ++ [c])
      rw [List.append_assoc] at h1
      have h2 := valD_snoc A c
      simp only [List.singleton_append] at h1
      omega
  conv => rhs; rw [← List.take_append_drop k L]
  exact main _ _
theorem badNum_cons (c : UInt8) (r : Bs) : badNum (c :: r) = (!((c :: r).all digB) || (c == 48 && !r.isEmpty)) := rfl
theorem class_isDigit : ClassIs 56 isDigit := ⟨Tryz.call56, asc_isDigit⟩
theorem dig_num {c : UInt8} (h : digB c = true) : 48 ≤ num c ∧ num c ≤ 57 := by have := (digB_nat c).1 h; simp only [num]; omega

set_option maxHeartbeats 4000000 in
set_option maxRecDepth 100000 in
theorem asc_number (s : ByteArray) (w : World) (hs : s.size ≤ 1000000) : Calls Tryz.prog 67 #[.string s, .int .i64 105190559] w fun e w' => e = .returned (.tuple #[.int .i64 ((numE (toL s)).1 : Nat), .int .i64 (numE (toL s)).2]) ∧ w = w' := by
  have HL := Lib.hid (toL_length s)
  have HSK := Lib.hid (fun wx => show Calls Tryz.prog 101 #[.string s, .int .i64 0, .func (.func 56) #[] #[]] wx fun e w' => e = .returned (.int .i64 (skipFrom isDigit (toL s) 0)) ∧ wx = w' from asc_skip 56 isDigit class_isDigit s 0 wx (by unfold maxLen; omega) (Nat.zero_le _))
  have HAD := Lib.hid (skip_dig (toL s))
  rw [HL.out] at HAD
  have hskle := skipFrom_le isDigit (toL s) 0 (Nat.zero_le _)
  rw [HL.out] at hskle
  generalize skipFrom isDigit (toL s) 0 = sk at *
  by_cases h0 : s.size = 0
  · have h1 : s.toList = [] := toList_nil h0
    have HV := Lib.hid (show numE (toL s) = (0, 3) from by rw [List.eq_nil_of_length_eq_zero (HL.out.trans h0)]; rfl)
    clear h0
    go_enter Tryz.func67, Tryz.ntmps67
    go_wp2_with fail
    go_ret2
    exact ⟨by rw [HV.out]; rfl, rfl⟩
  · have h1 : s.toList.isEmpty = false := toList_cons h0
    have h2 : 0 < s.size := by omega
    obtain ⟨r, er, hr⟩ := toL_first' h2
    have HER := Lib.hid er; clear er
    by_cases h3 : sk < s.size
    · have h3' : (sk : Int) < (s.size : Int) := by omega
      have HV := Lib.hid (show numE (toL s) = (0, 3) from by
        have hb : badNum (toL s) = true := by
          rw [HER.out, badNum_cons, ← HER.out, HAD.out, decide_eq_false (by omega)]; rfl
        unfold numE; rw [if_pos hb])
      clear h0 h3
      go_enter Tryz.func67, Tryz.ntmps67
      go_wp2_with ((go_at_call 101; (with_reducible refine (HSK.out _).mono ?_); rintro e w' ⟨rfl, rfl⟩))
      go_ret2
      exact ⟨by rw [HV.out]; rfl, rfl⟩
    · obtain rfl : sk = s.size := by omega
      have hall : (toL s).all digB = true := by rw [HAD.out, decide_eq_true (by omega)]
      by_cases h4 : 1 < s.size ∧ s[0] = 48
      · obtain ⟨g1, g2⟩ := h4
        have g1' : (1 : Int) < (s.size : Int) := by omega
        have g2' : (num s[0] == 48) = true := by rw [g2]; rfl
        have HV := Lib.hid (show numE (toL s) = (0, 3) from by
          have hb : badNum (toL s) = true := by
            rw [HER.out, badNum_cons]
            cases r with
            | nil => simp at hr; omega
            | cons a t => simp [g2]
          unfold numE; rw [if_pos hb])
        clear h0 h3 hall
        go_enter Tryz.func67, Tryz.ntmps67
        go_wp2_with ((go_at_call 101; (with_reducible refine (HSK.out _).mono ?_); rintro e w' ⟨rfl, rfl⟩))
        go_ret2
        exact ⟨by rw [HV.out]; rfl, rfl⟩
      · have HBD := Lib.hid (show badNum (toL s) = false from by
          have hall2 := hall
          rw [HER.out] at hall2
          rw [HER.out, badNum_cons, hall2]
          simp only [Bool.not_true, Bool.false_or]
          cases r with
          | nil => simp
          | cons a t =>
            have : s[0] ≠ 48 := fun e => h4 ⟨by simp at hr; omega, e⟩
            simp [this])
        have HV := Lib.hid (show numE (toL s) = if 105190559 < valD (toL s) then (0, 2) else (valD (toL s), 0) from by unfold numE; rw [if_neg (by rw [HBD.out]; simp)])
        have HDG := Lib.hid (fun k (hk : k < s.size) => show digB (s[k]'hk) = true from List.all_eq_true.1 hall _ (by rw [← toL_getElem s k hk]; exact List.getElem_mem _))
        have HTK := Lib.hid (fun k (hk : k < s.size) => show valD ((toL s).take (k + 1)) = 10 * valD ((toL s).take k) + ((s[k]'hk).toNat - 48) from by
          have hk' : k < (toL s).length := by rw [HL.out]; exact hk
          rw [List.take_succ_eq_append_getElem hk', toL_getElem s k hk, valD_snoc])
        have HLE := Lib.hid (fun k => valD_take_le (toL s) k)
        have hway : (s.size : Int) ≤ 1 ∨ ((1 : Int) < (s.size : Int) ∧ (num s[0] == 48) = false) := by
          by_cases g : 1 < s.size
          · refine .inr ⟨by omega, ?_⟩
            rw [show (num s[0] == 48) = decide (s[0] = 48) from numq _ 48 (by omega)]
            exact decide_eq_false fun e => h4 ⟨g, e⟩
          · exact .inl (by omega)
        clear h0 h3 hall h4 HBD HAD
        rcases hway with g | ⟨g, g'⟩
        all_goals
          go_enter Tryz.func67, Tryz.ntmps67
          go_wp2_with ((go_at_call 101; (with_reducible refine (HSK.out _).mono ?_); rintro e w' ⟨rfl, rfl⟩))
          go_loop [32, 6, 7, 8] (fun v32 v6 _ _ => ∃ k n : Nat, k ≤ s.size ∧ v32 = .int .i64 (k : Int) ∧ v6 = .int .i64 (n : Int) ∧ n = valD ((toL s).take k) ∧ n ≤ 105190559) (fun v32 _ _ _ => s.size - (intOf v32).toNat)
          case atStart => exact ⟨0, 0, by omega, rfl, rfl, rfl, by omega⟩
          case round =>
            obtain ⟨k, n, hk, rfl, rfl, hn, hnm⟩ := hrel
            have HN := Lib.hid hn; clear hn
            have k0 : (0 : Int) ≤ (k : Int) := by omega
            by_cases hlt : k < s.size
            · have k1 : (k : Int) < (s.size : Int) := by omega
              obtain ⟨d0, d1⟩ := dig_num (HDG.out k hlt)
              have HSTEP := Lib.hid (HTK.out k hlt)
              have HLEK := Lib.hid (HLE.out (k + 1))
              obtain ⟨d, hd⟩ : ∃ d : Nat, (s[k]'hlt).toNat - 48 = d := ⟨_, rfl⟩
              have hdn : num (s[k]'hlt) - 48 = (d : Int) := by simp only [num] at d0 ⊢; omega
              have hd9 : d ≤ 9 := by simp only [num] at d1; omega
              have x1 : IntKind.u8.wrap (num (s[k]'hlt) - 48) = (d : Int) := by rw [hdn]; exact IntWalk.u8_in _ (by omega)
              have x2 : IntKind.i64.wrap (d : Int) = (d : Int) := IntWalk.i64_in _ (by omega)
              have x3 : IntKind.i64.wrap (10 * (n : Int)) = 10 * (n : Int) := IntWalk.i64_in _ (by omega)
              have x4 : IntKind.i64.wrap (10 * (n : Int) + (d : Int)) = 10 * (n : Int) + (d : Int) := IntWalk.i64_in _ (by omega)
              by_cases hbig : 10519055 < n
              · have b1 : (10519055 : Int) < (n : Int) := by omega
                have HR := Lib.hid (show numE (toL s) = (0, 2) from by
                  rw [HV.out, if_pos]
                  have h1 := HLEK.out; have h2 := HSTEP.out
                  rw [← HN.out] at h2; omega)
                go_wp2_with fail
                go_ret2
                exact ⟨by rw [HR.out]; rfl, rfl⟩
              · have b1 : (n : Int) ≤ 10519055 := by omega
                have b2 : (d : Int) ≤ 9 := by omega
                have HNX := Lib.hid (show 10 * n + d = valD ((toL s).take (k + 1)) from by rw [HSTEP.out, ← HN.out, hd])
                have hbb : ((n : Int) == 10519055) = true ∨ ((n : Int) == 10519055) = false := by cases ((n : Int) == 10519055) <;> simp
                rcases hbb with b3 | b3
                all_goals
                  go_wp2_with fail
                  go_round
                  case rel => exact ⟨k + 1, 10 * n + d, by omega, by go_num, by go_num, HNX.out, by omega⟩
                  case measure => simp [intOf] <;> omega
            · have k1 : (s.size : Int) ≤ (k : Int) := by omega
              have HR := Lib.hid (show numE (toL s) = (n, 0) from by
                have : (toL s).take k = toL s := List.take_of_length_le (by rw [HL.out]; omega)
                have h1 := HN.out
                rw [this] at h1
                rw [HV.out, if_neg (by omega), ← h1])
              go_wp2_with fail
              go_ret2
              exact ⟨by rw [HR.out]; rfl, rfl⟩
end Go.Proofs.YtghjgbkhhoaebaaGreatDoor

namespace Go.Proofs.YtghjgbkhhoaebaaGreatDoor
set_option linter.unusedSimpArgs false
set_option linter.unusedVariables false
open Go.RowKit

abbrev pt (n : Nat) : Value := .pointer (some ⟨n, 0, none⟩)
abbrev fnV (f : Nat) (caps : Array Value) : Value := .func (.func f) #[] caps
/-- The variables of ParseLine, in boxes from n0 on. -/
structure PlSt (s : ByteArray) (n0 at_ : Nat) (m : Int) (nk tx : ByteArray) (wr : World) : Prop where
  cs : wr.heap[n0]? = some (.cells #[.string s] 9 (0, 0))
  cr : wr.heap[n0 + 1]? = some (.cells #[.int .i64 0, .string ⟨#[]⟩, .string ⟨#[]⟩] 39 (0, 0))
  cl : wr.heap[n0 + 2]? = some (.cells #[.int .i64 m, .string nk, .string tx] 39 (0, 0))
  ca : wr.heap[n0 + 3]? = some (.cells #[.int .i64 (at_ : Int)] 3 (0, 0))
  ce : wr.heap[n0 + 4]? = some (.cells #[fnV 63 #[pt n0, pt (n0 + 3)]] 68 (0, 0))
  cf : wr.heap[n0 + 5]? = some (.cells #[fnV 65 #[pt (n0 + 4)], fnV 66 #[pt n0, pt (n0 + 3), pt (n0 + 2)], fnV 68 #[pt (n0 + 4)], fnV 69 #[pt n0, pt (n0 + 3), pt (n0 + 2)], fnV 70 #[pt (n0 + 4)], fnV 71 #[pt n0, pt (n0 + 3), pt (n0 + 2)]] 40 (0, 0))
theorem PlSt.drewN {s : ByteArray} {n0 a : Nat} {m : Int} {nk tx : ByteArray} {wr : World} (h : PlSt s n0 a m nk tx wr) (n : Nat) : PlSt s n0 a m nk tx (wr.drewN n) := ⟨h.cs, h.cr, h.cl, h.ca, h.ce, h.cf⟩
theorem PlSt.below {s : ByteArray} {n0 a : Nat} {m : Int} {nk tx : ByteArray} {wr w' : World} (h : PlSt s n0 a m nk tx wr) (hb : Below wr.heap.size wr w') : PlSt s n0 a m nk tx w' :=
  ⟨(hb.block _ (heap_lt h.cs)).trans h.cs, (hb.block _ (heap_lt h.cr)).trans h.cr, (hb.block _ (heap_lt h.cl)).trans h.cl, (hb.block _ (heap_lt h.ca)).trans h.ca, (hb.block _ (heap_lt h.ce)).trans h.ce, (hb.block _ (heap_lt h.cf)).trans h.cf⟩
theorem PlSt.adv {s : ByteArray} {n0 a : Nat} {m : Int} {nk tx : ByteArray} {wr : World} (h : PlSt s n0 a m nk tx wr) (b : Nat) : PlSt s n0 b m nk tx (wr.setCell ⟨n0 + 3, 0, none⟩ (.int .i64 (b : Int))) :=
  ⟨(Below.heap_setCell _ _ _ _ (by show n0 ≠ n0 + 3; omega)).trans h.cs, (Below.heap_setCell _ _ _ _ (by show n0 + 1 ≠ n0 + 3; omega)).trans h.cr, (Below.heap_setCell _ _ _ _ (by show n0 + 2 ≠ n0 + 3; omega)).trans h.cl, (by rw [heap_set h.ca]; rfl), (Below.heap_setCell _ _ _ _ (by show n0 + 4 ≠ n0 + 3; omega)).trans h.ce, (Below.heap_setCell _ _ _ _ (by show n0 + 5 ≠ n0 + 3; omega)).trans h.cf⟩
theorem PlSt.setL {s : ByteArray} {n0 a : Nat} {m m2 : Int} {nk tx nk2 tx2 : ByteArray} {wr : World} (h : PlSt s n0 a m nk tx wr) (i : Nat) (v : Value) (hv : (#[.int .i64 m, .string nk, .string tx] : Array Value).setIfInBounds i v = #[.int .i64 m2, .string nk2, .string tx2]) : PlSt s n0 a m2 nk2 tx2 (wr.setCell ⟨n0 + 2, i, none⟩ v) :=
  ⟨(Below.heap_setCell _ _ _ _ (by show n0 ≠ n0 + 2; omega)).trans h.cs, (Below.heap_setCell _ _ _ _ (by show n0 + 1 ≠ n0 + 2; omega)).trans h.cr, (by rw [heap_set h.cl, hv]), (Below.heap_setCell _ _ _ _ (by show n0 + 3 ≠ n0 + 2; omega)).trans h.ca, (Below.heap_setCell _ _ _ _ (by show n0 + 4 ≠ n0 + 2; omega)).trans h.ce, (Below.heap_setCell _ _ _ _ (by show n0 + 5 ≠ n0 + 2; omega)).trans h.cf⟩
theorem pre_dec (L T : Bs) : Lib.hasPrefix L T = decide (L.take T.length = T) := by
  unfold Lib.hasPrefix
  rw [Bool.eq_iff_iff, List.isPrefixOf_iff_prefix, List.prefix_iff_eq_take, decide_eq_true_eq]
  exact ⟨Eq.symm, Eq.symm⟩
theorem index_any (c : UInt8) (L : Bs) : (Lib.indexByte L c = -1 ∧ posF c L = L.length) ∨ (Lib.indexByte L c = (posF c L : Nat) ∧ posF c L < L.length) := by
  unfold posF
  induction L with
  | nil => exact .inl ⟨rfl, rfl⟩
  | cons d r ih =>
    by_cases h : d = c
    · subst h; exact .inr ⟨by simp [Lib.indexByte], by simp⟩
    · have h1 : (d == c) = false := by simpa using h
      have h2 : (d != c) = true := by simp [bne, h1]
      rcases ih with ⟨e1, e2⟩ | ⟨e1, e2⟩
      · exact .inl ⟨by simp [Lib.indexByte, h1, e1], by rw [List.takeWhile_cons, if_pos h2, List.length_cons, e2, List.length_cons]⟩
      · refine .inr ⟨?_, by rw [List.takeWhile_cons, if_pos h2, List.length_cons, List.length_cons]; omega⟩
        have : ¬ Lib.indexByte r c = -1 := by omega
        rw [List.takeWhile_cons, if_pos h2, List.length_cons]
        simp [Lib.indexByte, h1, this, e1]
theorem cut_any (c : UInt8) (L : Bs) : (posF c L < L.length → Lib.cut L [c] = (L.take (posF c L), L.drop (posF c L + 1), true)) ∧ (¬ posF c L < L.length → Lib.cut L [c] = (L, [], false)) := by
  unfold Lib.cut
  rw [Lib.index_one]
  rcases index_any c L with ⟨e1, e2⟩ | ⟨e1, e2⟩
  · rw [e1, if_neg (by omega)]
    exact ⟨fun h => by omega, fun _ => rfl⟩
  · rw [e1, if_pos (by omega)]
    exact ⟨fun _ => by simp, fun h => absurd e2 h⟩
set_option maxHeartbeats 1000000 in
set_option maxRecDepth 100000 in
theorem pl_exp_ok (T : ByteArray) (hT : T.size ≤ 10) {s : ByteArray} {n0 a : Nat} {m : Int} {nk tx : ByteArray} {wr : World} (h : PlSt s n0 a m nk tx wr) (ha : a ≤ s.size) (hs : s.size ≤ 1000000) (hp : ((toL s).drop a).take (toL T).length = toL T) :
    Calls Tryz.prog 63 #[.string T, pt n0, pt (n0 + 3)] wr fun e w' => e = .returned (.int .i64 0) ∧ PlSt s n0 (a + T.size) m nk tx w' ∧ Below n0 wr w' := by
  have HP := Lib.hid (fun wx => Tryz.strings_HasPrefix (s.extract a s.size) T wx)
  have hv : Lib.hasPrefix (s.extract a s.size).data.toList T.data.toList = true := by
    rw [show (s.extract a s.size).data.toList = (toL s).drop a from ext_drop s a, pre_dec]; exact decide_eq_true hp
  rw [hv] at HP
  have HN := Lib.hid (h.adv (a + T.size))
  have HB := Lib.hid ((Below.refl n0 wr).setCell (p := ⟨n0 + 3, 0, none⟩) (by show n0 ≤ n0 + 3; omega) (.int .i64 ((a + T.size : Nat) : Int)))
  have c0 : wr.cell? ⟨n0, 0, none⟩ = some (.string s) := by rw [Lib.cell_of_heap h.cs]; rfl
  have c1 : wr.cell? ⟨n0 + 3, 0, none⟩ = some (.int .i64 (a : Int)) := by rw [Lib.cell_of_heap h.ca]; rfl
  have c2 := Lib.frozen_of_heap h.ca 0
  have i0 : (0 : Int) ≤ (a : Int) := by omega
  have i1 : (a : Int) ≤ (s.size : Int) := by omega
  have x1 : IntKind.i64.wrap ((a : Int) + (T.size : Int)) = ((a + T.size : Nat) : Int) := by rw [IntWalk.i64_in _ (by omega)]; simp
  clear hp hv h
  go_enter Tryz.func63, Tryz.ntmps63
  go_wp2_with ((go_at_call 64; (with_reducible refine (HP.out _).mono ?_); rintro e w' ⟨rfl, rfl⟩))
  go_ret
  exact ⟨rfl, HN.out, HB.out⟩
set_option maxHeartbeats 1000000 in
set_option maxRecDepth 100000 in
theorem pl_exp_no (T : ByteArray) {s : ByteArray} {n0 a : Nat} {m : Int} {nk tx : ByteArray} {wr : World} (h : PlSt s n0 a m nk tx wr) (ha : a ≤ s.size) (hs : s.size ≤ 1000000) (hp : ¬ ((toL s).drop a).take (toL T).length = toL T) :
    Calls Tryz.prog 63 #[.string T, pt n0, pt (n0 + 3)] wr fun e w' => e = .returned (.int .i64 3) ∧ PlSt s n0 a m nk tx w' ∧ Below n0 wr w' := by
  have HP := Lib.hid (fun wx => Tryz.strings_HasPrefix (s.extract a s.size) T wx)
  have hv : Lib.hasPrefix (s.extract a s.size).data.toList T.data.toList = false := by
    rw [show (s.extract a s.size).data.toList = (toL s).drop a from ext_drop s a, pre_dec]; exact decide_eq_false hp
  rw [hv] at HP
  have HN := Lib.hid h
  have c0 : wr.cell? ⟨n0, 0, none⟩ = some (.string s) := by rw [Lib.cell_of_heap h.cs]; rfl
  have c1 : wr.cell? ⟨n0 + 3, 0, none⟩ = some (.int .i64 (a : Int)) := by rw [Lib.cell_of_heap h.ca]; rfl
  have i0 : (0 : Int) ≤ (a : Int) := by omega
  have i1 : (a : Int) ≤ (s.size : Int) := by omega
  clear hp hv h
  go_enter Tryz.func63, Tryz.ntmps63
  go_wp2_with ((go_at_call 64; (with_reducible refine (HP.out _).mono ?_); rintro e w' ⟨rfl, rfl⟩))
  go_ret
  exact ⟨rfl, HN.out, Below.refl _ _⟩
end Go.Proofs.YtghjgbkhhoaebaaGreatDoor

namespace Go.Proofs.YtghjgbkhhoaebaaGreatDoor
set_option linter.unusedSimpArgs false
set_option linter.unusedVariables false
open Go.RowKit

set_option maxHeartbeats 1000000 in
set_option maxRecDepth 100000 in
theorem pl_a_ok {s : ByteArray} {n0 a : Nat} {m : Int} {nk tx : ByteArray} {wr : World} (h : PlSt s n0 a m nk tx wr) (ha : a ≤ s.size) (hs : s.size ≤ 1000000) (hp : ((toL s).drop a).take 1 = [91]) :
    Calls Tryz.prog 65 #[pt (n0 + 4)] wr fun e w' => e = .returned (.int .i64 0) ∧ PlSt s n0 (a + 1) m nk tx w' ∧ Below n0 wr w' := by
  have HC := Lib.hid (pl_exp_ok ⟨#[91]⟩ (by decide) h ha hs hp)
  have c0 : wr.cell? ⟨n0 + 4, 0, none⟩ = some (fnV 63 #[pt n0, pt (n0 + 3)]) := by rw [Lib.cell_of_heap h.ce]; rfl
  clear h hp
  go_enter Tryz.func65, Tryz.ntmps65
  go_wp2_with ((go_at_call 63; (with_reducible refine HC.out.mono ?_); rintro e w1 ⟨rfl, h1, h2⟩; have H1 := Lib.hid h1; have H2 := Lib.hid h2; clear h1 h2))
  go_ret
  exact ⟨rfl, H1.out, H2.out⟩
set_option maxHeartbeats 1000000 in
set_option maxRecDepth 100000 in
theorem pl_a_no {s : ByteArray} {n0 a : Nat} {m : Int} {nk tx : ByteArray} {wr : World} (h : PlSt s n0 a m nk tx wr) (ha : a ≤ s.size) (hs : s.size ≤ 1000000) (hp : ¬ ((toL s).drop a).take 1 = [91]) :
    Calls Tryz.prog 65 #[pt (n0 + 4)] wr fun e w' => e = .returned (.int .i64 3) ∧ PlSt s n0 a m nk tx w' ∧ Below n0 wr w' := by
  have HC := Lib.hid (pl_exp_no ⟨#[91]⟩ h ha hs hp)
  have c0 : wr.cell? ⟨n0 + 4, 0, none⟩ = some (fnV 63 #[pt n0, pt (n0 + 3)]) := by rw [Lib.cell_of_heap h.ce]; rfl
  clear h hp
  go_enter Tryz.func65, Tryz.ntmps65
  go_wp2_with ((go_at_call 63; (with_reducible refine HC.out.mono ?_); rintro e w1 ⟨rfl, h1, h2⟩; have H1 := Lib.hid h1; have H2 := Lib.hid h2; clear h1 h2))
  go_ret
  exact ⟨rfl, H1.out, H2.out⟩
set_option maxHeartbeats 1000000 in
set_option maxRecDepth 100000 in
theorem pl_c_ok {s : ByteArray} {n0 a : Nat} {m : Int} {nk tx : ByteArray} {wr : World} (h : PlSt s n0 a m nk tx wr) (ha : a ≤ s.size) (hs : s.size ≤ 1000000) (hp : ((toL s).drop a).take 2 = [32, 60]) :
    Calls Tryz.prog 68 #[pt (n0 + 4)] wr fun e w' => e = .returned (.int .i64 0) ∧ PlSt s n0 (a + 2) m nk tx w' ∧ Below n0 wr w' := by
  have HC := Lib.hid (pl_exp_ok ⟨#[32, 60]⟩ (by decide) h ha hs hp)
  have c0 : wr.cell? ⟨n0 + 4, 0, none⟩ = some (fnV 63 #[pt n0, pt (n0 + 3)]) := by rw [Lib.cell_of_heap h.ce]; rfl
  clear h hp
  go_enter Tryz.func68, Tryz.ntmps68
  go_wp2_with ((go_at_call 63; (with_reducible refine HC.out.mono ?_); rintro e w1 ⟨rfl, h1, h2⟩; have H1 := Lib.hid h1; have H2 := Lib.hid h2; clear h1 h2))
  go_ret
  exact ⟨rfl, H1.out, H2.out⟩
set_option maxHeartbeats 1000000 in
set_option maxRecDepth 100000 in
theorem pl_c_no {s : ByteArray} {n0 a : Nat} {m : Int} {nk tx : ByteArray} {wr : World} (h : PlSt s n0 a m nk tx wr) (ha : a ≤ s.size) (hs : s.size ≤ 1000000) (hp : ¬ ((toL s).drop a).take 2 = [32, 60]) :
    Calls Tryz.prog 68 #[pt (n0 + 4)] wr fun e w' => e = .returned (.int .i64 3) ∧ PlSt s n0 a m nk tx w' ∧ Below n0 wr w' := by
  have HC := Lib.hid (pl_exp_no ⟨#[32, 60]⟩ h ha hs hp)
  have c0 : wr.cell? ⟨n0 + 4, 0, none⟩ = some (fnV 63 #[pt n0, pt (n0 + 3)]) := by rw [Lib.cell_of_heap h.ce]; rfl
  clear h hp
  go_enter Tryz.func68, Tryz.ntmps68
  go_wp2_with ((go_at_call 63; (with_reducible refine HC.out.mono ?_); rintro e w1 ⟨rfl, h1, h2⟩; have H1 := Lib.hid h1; have H2 := Lib.hid h2; clear h1 h2))
  go_ret
  exact ⟨rfl, H1.out, H2.out⟩
set_option maxHeartbeats 1000000 in
set_option maxRecDepth 100000 in
theorem pl_e_ok {s : ByteArray} {n0 a : Nat} {m : Int} {nk tx : ByteArray} {wr : World} (h : PlSt s n0 a m nk tx wr) (ha : a ≤ s.size) (hs : s.size ≤ 1000000) (hp : ((toL s).drop a).take 1 = [32]) :
    Calls Tryz.prog 70 #[pt (n0 + 4)] wr fun e w' => e = .returned (.int .i64 0) ∧ PlSt s n0 (a + 1) m nk tx w' ∧ Below n0 wr w' := by
  have HC := Lib.hid (pl_exp_ok ⟨#[32]⟩ (by decide) h ha hs hp)
  have c0 : wr.cell? ⟨n0 + 4, 0, none⟩ = some (fnV 63 #[pt n0, pt (n0 + 3)]) := by rw [Lib.cell_of_heap h.ce]; rfl
  clear h hp
  go_enter Tryz.func70, Tryz.ntmps70
  go_wp2_with ((go_at_call 63; (with_reducible refine HC.out.mono ?_); rintro e w1 ⟨rfl, h1, h2⟩; have H1 := Lib.hid h1; have H2 := Lib.hid h2; clear h1 h2))
  go_ret
  exact ⟨rfl, H1.out, H2.out⟩
set_option maxHeartbeats 1000000 in
set_option maxRecDepth 100000 in
theorem pl_e_no {s : ByteArray} {n0 a : Nat} {m : Int} {nk tx : ByteArray} {wr : World} (h : PlSt s n0 a m nk tx wr) (ha : a ≤ s.size) (hs : s.size ≤ 1000000) (hp : ¬ ((toL s).drop a).take 1 = [32]) :
    Calls Tryz.prog 70 #[pt (n0 + 4)] wr fun e w' => e = .returned (.int .i64 3) ∧ PlSt s n0 a m nk tx w' ∧ Below n0 wr w' := by
  have HC := Lib.hid (pl_exp_no ⟨#[32]⟩ h ha hs hp)
  have c0 : wr.cell? ⟨n0 + 4, 0, none⟩ = some (fnV 63 #[pt n0, pt (n0 + 3)]) := by rw [Lib.cell_of_heap h.ce]; rfl
  clear h hp
  go_enter Tryz.func70, Tryz.ntmps70
  go_wp2_with ((go_at_call 63; (with_reducible refine HC.out.mono ?_); rintro e w1 ⟨rfl, h1, h2⟩; have H1 := Lib.hid h1; have H2 := Lib.hid h2; clear h1 h2))
  go_ret
  exact ⟨rfl, H1.out, H2.out⟩
/-- What strings.Cut gives at one byte. -/
theorem cut_calls (c : UInt8) (R : ByteArray) (w : World) (hsh : w.ShapedOpen Tryz.prog) (hs : R.size ≤ 900000) :
    (posF c (toL R) < R.size → Calls Tryz.prog 50 #[.string R, .string ⟨#[c]⟩] w fun e w' => ∃ (b : ByteArray) (n : Nat), e = .returned (.tuple #[.string (ofL ((toL R).take (posF c (toL R)))), .string b, .bool true]) ∧ w' = w.drewN n) ∧
    (¬ posF c (toL R) < R.size → Calls Tryz.prog 50 #[.string R, .string ⟨#[c]⟩] w fun e w' => ∃ (a b : ByteArray) (n : Nat), e = .returned (.tuple #[.string a, .string b, .bool false]) ∧ w' = w.drewN n) := by
  have h := Tryz.strings_Cut_shaped R ⟨#[c]⟩ w hsh (by omega)
  obtain ⟨h1, h2⟩ := cut_any c (toL R)
  rw [toL_length] at h1 h2
  have e1 : (⟨#[c]⟩ : ByteArray).data.toList = [c] := rfl
  have e2 : R.data.toList = toL R := rfl
  rw [e1, e2] at h
  constructor
  · intro hp
    rw [h1 hp] at h
    refine h.mono ?_
    rintro e w' ⟨rfl, n, rfl⟩
    exact ⟨_, n, rfl, rfl⟩
  · intro hp
    rw [h2 hp] at h
    refine h.mono ?_
    rintro e w' ⟨rfl, n, rfl⟩
    exact ⟨_, _, n, rfl, rfl⟩
set_option maxHeartbeats 2000000 in
set_option maxRecDepth 100000 in
theorem pl_b_no {s : ByteArray} {n0 a : Nat} {m : Int} {nk tx : ByteArray} {wr : World} (h : PlSt s n0 a m nk tx wr) (hsh : wr.ShapedOpen Tryz.prog) (ha : a ≤ s.size) (hs : s.size ≤ 900000) (hp : ¬ posF 93 ((toL s).drop a) < ((toL s).drop a).length) :
    Calls Tryz.prog 66 #[pt n0, pt (n0 + 3), pt (n0 + 2)] wr fun e w' => e = .returned (.int .i64 3) ∧ PlSt s n0 a m nk tx w' ∧ Below n0 wr w' := by
  have c0 : wr.cell? ⟨n0, 0, none⟩ = some (.string s) := by rw [Lib.cell_of_heap h.cs]; rfl
  have c1 : wr.cell? ⟨n0 + 3, 0, none⟩ = some (.int .i64 (a : Int)) := by rw [Lib.cell_of_heap h.ca]; rfl
  have i0 : (0 : Int) ≤ (a : Int) := by omega
  have i1 : (a : Int) ≤ (s.size : Int) := by omega
  have hR : toL (s.extract a s.size) = (toL s).drop a := ext_drop s a
  have hRs : (s.extract a s.size).size = s.size - a := extract_size _ _ _ (Nat.le_refl _)
  have HC := Lib.hid ((cut_calls 93 (s.extract a s.size) wr hsh (by omega)).2 (by rw [hR, ← toL_length, hR]; exact hp))
  have HN := Lib.hid (fun n => h.drewN n)
  clear h hsh hp hR
  go_enter Tryz.func66, Tryz.ntmps66
  go_wp2_with ((go_at_call 50; (with_reducible refine HC.out.mono ?_); rintro e w1 ⟨x, y, n, rfl, rfl⟩))
  go_ret
  exact ⟨rfl, HN.out n, below_drewN (Below.refl _ _) n⟩
set_option maxHeartbeats 2000000 in
set_option maxRecDepth 100000 in
theorem pl_b_bad {s : ByteArray} {n0 a : Nat} {m : Int} {nk tx : ByteArray} {wr : World} (h : PlSt s n0 a m nk tx wr) (hsh : wr.ShapedOpen Tryz.prog) (ha : a ≤ s.size) (hs : s.size ≤ 900000) (hp : posF 93 ((toL s).drop a) < ((toL s).drop a).length) (he : (numE (((toL s).drop a).take (posF 93 ((toL s).drop a)))).2 ≠ 0) :
    Calls Tryz.prog 66 #[pt n0, pt (n0 + 3), pt (n0 + 2)] wr fun e w' => e = .returned (.int .i64 (numE (((toL s).drop a).take (posF 93 ((toL s).drop a)))).2) ∧ PlSt s n0 a m nk tx w' ∧ Below n0 wr w' := by
  have c0 : wr.cell? ⟨n0, 0, none⟩ = some (.string s) := by rw [Lib.cell_of_heap h.cs]; rfl
  have c1 : wr.cell? ⟨n0 + 3, 0, none⟩ = some (.int .i64 (a : Int)) := by rw [Lib.cell_of_heap h.ca]; rfl
  have i0 : (0 : Int) ≤ (a : Int) := by omega
  have i1 : (a : Int) ≤ (s.size : Int) := by omega
  have hR : toL (s.extract a s.size) = (toL s).drop a := ext_drop s a
  have hRs : (s.extract a s.size).size = s.size - a := extract_size _ _ _ (Nat.le_refl _)
  have HC := Lib.hid ((cut_calls 93 (s.extract a s.size) wr hsh (by omega)).1 (by rw [hR, ← toL_length, hR]; exact hp))
  rw [hR] at HC
  have hlen : (((toL s).drop a).take (posF 93 ((toL s).drop a))).length ≤ s.size := by rw [List.length_take, List.length_drop, toL_length]; omega
  have HNU := Lib.hid (fun wx => asc_number (ofL (((toL s).drop a).take (posF 93 ((toL s).drop a)))) wx (by rw [ofL_size]; omega))
  rw [toL_ofL] at HNU
  have HN := Lib.hid (fun n => h.drewN n)
  generalize ((toL s).drop a).take (posF 93 ((toL s).drop a)) = D at *
  have e1 : ((numE D).2 != 0) = true := by simp [bne, he]
  generalize numE D = ne at *
  obtain ⟨nv, er⟩ := ne
  simp only at HNU e1 he ⊢
  clear h hsh hp hR he
  go_enter Tryz.func66, Tryz.ntmps66
  go_wp2_with (first | (go_at_call 50; (with_reducible refine HC.out.mono ?_); rintro e w1 ⟨y, n, rfl, rfl⟩) | (go_at_call 67; (with_reducible refine (HNU.out _).mono ?_); rintro e w' ⟨rfl, rfl⟩))
  go_ret
  exact ⟨rfl, HN.out n, below_drewN (Below.refl _ _) n⟩
set_option maxHeartbeats 2000000 in
set_option maxRecDepth 100000 in
theorem pl_b_ok {s : ByteArray} {n0 a : Nat} {m : Int} {nk tx : ByteArray} {wr : World} (h : PlSt s n0 a m nk tx wr) (hsh : wr.ShapedOpen Tryz.prog) (ha : a ≤ s.size) (hs : s.size ≤ 900000) (hp : posF 93 ((toL s).drop a) < ((toL s).drop a).length) (he : (numE (((toL s).drop a).take (posF 93 ((toL s).drop a)))).2 = 0) :
    Calls Tryz.prog 66 #[pt n0, pt (n0 + 3), pt (n0 + 2)] wr fun e w' => e = .returned (.int .i64 0) ∧ PlSt s n0 (a + (posF 93 ((toL s).drop a) + 1)) ((numE (((toL s).drop a).take (posF 93 ((toL s).drop a)))).1 : Nat) nk tx w' ∧ Below n0 wr w' := by
  have c0 : wr.cell? ⟨n0, 0, none⟩ = some (.string s) := by rw [Lib.cell_of_heap h.cs]; rfl
  have c1 : wr.cell? ⟨n0 + 3, 0, none⟩ = some (.int .i64 (a : Int)) := by rw [Lib.cell_of_heap h.ca]; rfl
  have i0 : (0 : Int) ≤ (a : Int) := by omega
  have i1 : (a : Int) ≤ (s.size : Int) := by omega
  have hR : toL (s.extract a s.size) = (toL s).drop a := ext_drop s a
  have hRs : (s.extract a s.size).size = s.size - a := extract_size _ _ _ (Nat.le_refl _)
  have HC := Lib.hid ((cut_calls 93 (s.extract a s.size) wr hsh (by omega)).1 (by rw [hR, ← toL_length, hR]; exact hp))
  rw [hR] at HC
  have hlen : (((toL s).drop a).take (posF 93 ((toL s).drop a))).length = posF 93 ((toL s).drop a) := by rw [List.length_take]; omega
  have hlen2 : posF 93 ((toL s).drop a) < s.size - a := by have := hp; rw [List.length_drop, toL_length] at this; exact this
  have HNU := Lib.hid (fun wx => asc_number (ofL (((toL s).drop a).take (posF 93 ((toL s).drop a)))) wx (by rw [ofL_size]; omega))
  rw [toL_ofL] at HNU
  have hsz : (ofL (((toL s).drop a).take (posF 93 ((toL s).drop a)))).size = posF 93 ((toL s).drop a) := by rw [ofL_size]; exact hlen
  generalize ofL (((toL s).drop a).take (posF 93 ((toL s).drop a))) = DB at *
  generalize posF 93 ((toL s).drop a) = k at *
  generalize numE (((toL s).drop a).take k) = ne at *
  obtain ⟨nv, er⟩ := ne
  simp only at HNU he ⊢
  subst he
  have HN := Lib.hid (fun n => ((h.drewN n).setL 0 (.int .i64 (nv : Int)) rfl).adv (a + (k + 1)))
  rw [show ((a + (k + 1) : Nat) : Int) = (a : Int) + ((k : Int) + 1) from by simp] at HN
  have d0 : wr.frozen? ⟨n0 + 2, 0, none⟩ = false := Lib.frozen_of_heap h.cl 0
  have d1 : wr.cell? ⟨n0 + 2, 0, none⟩ = some (.int .i64 m) := by rw [Lib.cell_of_heap h.cl]; rfl
  have d2 : wr.frozen? ⟨n0 + 3, 0, none⟩ = false := Lib.frozen_of_heap h.ca 0
  have x1 : IntKind.i64.wrap ((k : Int) + 1) = (k : Int) + 1 := IntWalk.i64_in _ (by omega)
  have x2 : IntKind.i64.wrap ((a : Int) + ((k : Int) + 1)) = (a : Int) + ((k : Int) + 1) := IntWalk.i64_in _ (by omega)
  clear h hsh hp hR hlen
  go_enter Tryz.func66, Tryz.ntmps66
  go_wp2_with (first | (go_at_call 50; (with_reducible refine HC.out.mono ?_); rintro e w1 ⟨y, n, rfl, rfl⟩) | (go_at_call 67; (with_reducible refine (HNU.out _).mono ?_); rintro e w' ⟨rfl, rfl⟩))
  go_ret
  exact ⟨rfl, HN.out n, ((below_drewN (Below.refl _ _) n).setCell (p := ⟨n0 + 2, 0, none⟩) (by show n0 ≤ n0 + 2; omega) _).setCell (p := ⟨n0 + 3, 0, none⟩) (by show n0 ≤ n0 + 3; omega) _⟩
set_option maxHeartbeats 2000000 in
set_option maxRecDepth 100000 in
theorem pl_d_no {s : ByteArray} {n0 a : Nat} {m : Int} {nk tx : ByteArray} {wr : World} (h : PlSt s n0 a m nk tx wr) (hsh : wr.ShapedOpen Tryz.prog) (ha : a ≤ s.size) (hs : s.size ≤ 900000) (hp : ¬ posF 62 ((toL s).drop a) < ((toL s).drop a).length) :
    Calls Tryz.prog 69 #[pt n0, pt (n0 + 3), pt (n0 + 2)] wr fun e w' => e = .returned (.int .i64 12) ∧ PlSt s n0 a m nk tx w' ∧ Below n0 wr w' := by
  have c0 : wr.cell? ⟨n0, 0, none⟩ = some (.string s) := by rw [Lib.cell_of_heap h.cs]; rfl
  have c1 : wr.cell? ⟨n0 + 3, 0, none⟩ = some (.int .i64 (a : Int)) := by rw [Lib.cell_of_heap h.ca]; rfl
  have i0 : (0 : Int) ≤ (a : Int) := by omega
  have i1 : (a : Int) ≤ (s.size : Int) := by omega
  have hR : toL (s.extract a s.size) = (toL s).drop a := ext_drop s a
  have hRs : (s.extract a s.size).size = s.size - a := extract_size _ _ _ (Nat.le_refl _)
  have HC := Lib.hid ((cut_calls 62 (s.extract a s.size) wr hsh (by omega)).2 (by rw [hR, ← toL_length, hR]; exact hp))
  have HN := Lib.hid (fun n => h.drewN n)
  clear h hsh hp hR
  go_enter Tryz.func69, Tryz.ntmps69
  go_wp2_with ((go_at_call 50; (with_reducible refine HC.out.mono ?_); rintro e w1 ⟨x, y, n, rfl, rfl⟩))
  go_ret
  exact ⟨rfl, HN.out n, below_drewN (Below.refl _ _) n⟩
set_option maxHeartbeats 2000000 in
set_option maxRecDepth 100000 in
theorem pl_d_bad {s : ByteArray} {n0 a : Nat} {m : Int} {nk tx : ByteArray} {wr : World} (h : PlSt s n0 a m nk tx wr) (hsh : wr.ShapedOpen Tryz.prog) (ha : a ≤ s.size) (hs : s.size ≤ 900000) (hp : posF 62 ((toL s).drop a) < ((toL s).drop a).length) (hq : nickB (((toL s).drop a).take (posF 62 ((toL s).drop a))) = false) :
    Calls Tryz.prog 69 #[pt n0, pt (n0 + 3), pt (n0 + 2)] wr fun e w' => e = .returned (.int .i64 12) ∧ PlSt s n0 a m nk tx w' ∧ Below n0 wr w' := by
  have c0 : wr.cell? ⟨n0, 0, none⟩ = some (.string s) := by rw [Lib.cell_of_heap h.cs]; rfl
  have c1 : wr.cell? ⟨n0 + 3, 0, none⟩ = some (.int .i64 (a : Int)) := by rw [Lib.cell_of_heap h.ca]; rfl
  have i0 : (0 : Int) ≤ (a : Int) := by omega
  have i1 : (a : Int) ≤ (s.size : Int) := by omega
  have hR : toL (s.extract a s.size) = (toL s).drop a := ext_drop s a
  have hRs : (s.extract a s.size).size = s.size - a := extract_size _ _ _ (Nat.le_refl _)
  have HC := Lib.hid ((cut_calls 62 (s.extract a s.size) wr hsh (by omega)).1 (by rw [hR, ← toL_length, hR]; exact hp))
  rw [hR] at HC
  have hlen : (((toL s).drop a).take (posF 62 ((toL s).drop a))).length = posF 62 ((toL s).drop a) := by rw [List.length_take]; omega
  have hlen2 : posF 62 ((toL s).drop a) < s.size - a := by have := hp; rw [List.length_drop, toL_length] at this; exact this
  have HNI := Lib.hid (fun wx => gw_isNick (ofL (((toL s).drop a).take (posF 62 ((toL s).drop a)))) wx (by rw [ofL_size]; unfold maxLen; omega))
  rw [toL_ofL, hq] at HNI
  have hsz : (ofL (((toL s).drop a).take (posF 62 ((toL s).drop a)))).size = posF 62 ((toL s).drop a) := by rw [ofL_size]; exact hlen
  generalize ofL (((toL s).drop a).take (posF 62 ((toL s).drop a))) = DB at *
  have HN := Lib.hid (fun n => h.drewN n)
  clear h hsh hp hR hq
  go_enter Tryz.func69, Tryz.ntmps69
  go_wp2_with (first | (go_at_call 50; (with_reducible refine HC.out.mono ?_); rintro e w1 ⟨y, n, rfl, rfl⟩) | (go_at_call 30; (with_reducible refine (HNI.out _).mono ?_); rintro e w' ⟨rfl, rfl⟩))
  go_ret
  exact ⟨rfl, HN.out n, below_drewN (Below.refl _ _) n⟩
set_option maxHeartbeats 2000000 in
set_option maxRecDepth 100000 in
theorem pl_d_ok {s : ByteArray} {n0 a : Nat} {m : Int} {nk tx : ByteArray} {wr : World} (h : PlSt s n0 a m nk tx wr) (hsh : wr.ShapedOpen Tryz.prog) (ha : a ≤ s.size) (hs : s.size ≤ 900000) (hp : posF 62 ((toL s).drop a) < ((toL s).drop a).length) (hq : nickB (((toL s).drop a).take (posF 62 ((toL s).drop a))) = true) :
    Calls Tryz.prog 69 #[pt n0, pt (n0 + 3), pt (n0 + 2)] wr fun e w' => e = .returned (.int .i64 0) ∧ PlSt s n0 (a + (posF 62 ((toL s).drop a) + 1)) m (ofL (((toL s).drop a).take (posF 62 ((toL s).drop a)))) tx w' ∧ Below n0 wr w' := by
  have c0 : wr.cell? ⟨n0, 0, none⟩ = some (.string s) := by rw [Lib.cell_of_heap h.cs]; rfl
  have c1 : wr.cell? ⟨n0 + 3, 0, none⟩ = some (.int .i64 (a : Int)) := by rw [Lib.cell_of_heap h.ca]; rfl
  have i0 : (0 : Int) ≤ (a : Int) := by omega
  have i1 : (a : Int) ≤ (s.size : Int) := by omega
  have hR : toL (s.extract a s.size) = (toL s).drop a := ext_drop s a
  have hRs : (s.extract a s.size).size = s.size - a := extract_size _ _ _ (Nat.le_refl _)
  have HC := Lib.hid ((cut_calls 62 (s.extract a s.size) wr hsh (by omega)).1 (by rw [hR, ← toL_length, hR]; exact hp))
  rw [hR] at HC
  have hlen : (((toL s).drop a).take (posF 62 ((toL s).drop a))).length = posF 62 ((toL s).drop a) := by rw [List.length_take]; omega
  have hlen2 : posF 62 ((toL s).drop a) < s.size - a := by have := hp; rw [List.length_drop, toL_length] at this; exact this
  have HNI := Lib.hid (fun wx => gw_isNick (ofL (((toL s).drop a).take (posF 62 ((toL s).drop a)))) wx (by rw [ofL_size]; unfold maxLen; omega))
  rw [toL_ofL, hq] at HNI
  have hsz : (ofL (((toL s).drop a).take (posF 62 ((toL s).drop a)))).size = posF 62 ((toL s).drop a) := by rw [ofL_size]; exact hlen
  generalize ofL (((toL s).drop a).take (posF 62 ((toL s).drop a))) = DB at *
  generalize posF 62 ((toL s).drop a) = k at *
  have HN := Lib.hid (fun n => ((h.drewN n).setL 1 (.string DB) rfl).adv (a + (k + 1)))
  rw [show ((a + (k + 1) : Nat) : Int) = (a : Int) + ((k : Int) + 1) from by simp] at HN
  have d0 : wr.frozen? ⟨n0 + 2, 1, none⟩ = false := Lib.frozen_of_heap h.cl 1
  have d1 : wr.cell? ⟨n0 + 2, 1, none⟩ = some (.string nk) := by rw [Lib.cell_of_heap h.cl]; rfl
  have d2 : wr.frozen? ⟨n0 + 3, 0, none⟩ = false := Lib.frozen_of_heap h.ca 0
  have x1 : IntKind.i64.wrap ((k : Int) + 1) = (k : Int) + 1 := IntWalk.i64_in _ (by omega)
  have x2 : IntKind.i64.wrap ((a : Int) + ((k : Int) + 1)) = (a : Int) + ((k : Int) + 1) := IntWalk.i64_in _ (by omega)
  clear h hsh hp hR hlen hq
  go_enter Tryz.func69, Tryz.ntmps69
  go_wp2_with (first | (go_at_call 50; (with_reducible refine HC.out.mono ?_); rintro e w1 ⟨y, n, rfl, rfl⟩) | (go_at_call 30; (with_reducible refine (HNI.out _).mono ?_); rintro e w' ⟨rfl, rfl⟩))
  go_ret
  exact ⟨rfl, HN.out n, ((below_drewN (Below.refl _ _) n).setCell (p := ⟨n0 + 2, 1, none⟩) (by show n0 ≤ n0 + 2; omega) _).setCell (p := ⟨n0 + 3, 0, none⟩) (by show n0 ≤ n0 + 3; omega) _⟩
set_option maxHeartbeats 2000000 in
set_option maxRecDepth 100000 in
theorem pl_f {s : ByteArray} {n0 a : Nat} {m : Int} {nk tx : ByteArray} {wr : World} (h : PlSt s n0 a m nk tx wr) (hsh : wr.ShapedOpen Tryz.prog) (ha : a ≤ s.size) (hs : s.size ≤ 900000)  :
    Calls Tryz.prog 71 #[pt n0, pt (n0 + 3), pt (n0 + 2)] wr fun e w' => e = .returned (.int .i64 (textE ((toL s).drop a))) ∧ PlSt s n0 a m nk (s.extract a s.size) w' ∧ Below n0 wr w' := by
  have c0 : wr.cell? ⟨n0, 0, none⟩ = some (.string s) := by rw [Lib.cell_of_heap h.cs]; rfl
  have c1 : wr.cell? ⟨n0 + 3, 0, none⟩ = some (.int .i64 (a : Int)) := by rw [Lib.cell_of_heap h.ca]; rfl
  have i0 : (0 : Int) ≤ (a : Int) := by omega
  have i1 : (a : Int) ≤ (s.size : Int) := by omega
  have hR : toL (s.extract a s.size) = (toL s).drop a := ext_drop s a
  have hRs : (s.extract a s.size).size = s.size - a := extract_size _ _ _ (Nat.le_refl _)
  have HN := Lib.hid (h.setL 2 (.string (s.extract a s.size)) rfl)
  have HCT := Lib.hid (fun wx => gw_checkText (s.extract a s.size) wx (by omega))
  rw [hR] at HCT
  have d0 : wr.frozen? ⟨n0 + 2, 2, none⟩ = false := Lib.frozen_of_heap h.cl 2
  have d1 : wr.cell? ⟨n0 + 2, 2, none⟩ = some (.string tx) := by rw [Lib.cell_of_heap h.cl]; rfl
  have HB := Lib.hid ((Below.refl n0 wr).setCell (p := ⟨n0 + 2, 2, none⟩) (by show n0 ≤ n0 + 2; omega) (.string (s.extract a s.size)))
  have hlt : n0 + 2 < wr.heap.size := heap_lt h.cl
  clear h hsh hR
  go_enter Tryz.func71, Tryz.ntmps71
  go_wp2_with ((go_at_call 41; (with_reducible refine (HCT.out _).mono ?_); rintro e w1 ⟨rfl, hb1⟩))
  go_ret
  exact ⟨rfl, HN.out.below hb1, HB.out.trans (hb1.mono (by simp; omega))⟩
end Go.Proofs.YtghjgbkhhoaebaaGreatDoor
