/- Lemmas and walks, part 22. -/
import Derived.Test.YtcohgjdijhogbaaPt19
import Derived.Test.YtcohgjdijhogbaaPt18
import Derived.Test.YtcohgjdijhogbaaPt21
namespace Go.Proofs.Ytcohgjdijhogbaa
set_option linter.unusedSimpArgs false
set_option linter.unusedVariables false
open Go.RowKit

abbrev kA : ByteArray := ⟨#[83, 117, 98, 106, 101, 99, 116, 58, 32, 97, 10, 10, 104, 101, 108, 108, 111, 10]⟩
abbrev kB : ByteArray := ⟨#[83, 117, 98, 106, 101, 99, 116, 58, 32, 97, 10, 10, 120]⟩
abbrev kQ : ByteArray := ⟨#[97, 10, 62, 32, 98, 10, 10]⟩
theorem ex_parseA : (parF (toL kA)).fields = [([83, 117, 98, 106, 101, 99, 116], [97])] ∧ (parF (toL kA)).body = [104, 101, 108, 108, 111, 10] ∧ (parF (toL kA)).at_ = 0 ∧ (parF (toL kA)).e = 0 := by decide +kernel
theorem ex_parseB : (parF (toL kB)).fields = [] ∧ (parF (toL kB)).body = [] ∧ (parF (toL kB)).at_ = 13 ∧ (parF (toL kB)).e = 4 := by decide +kernel
theorem ex_printA : priF [([83, 117, 98, 106, 101, 99, 116], [97])] [104, 101, 108, 108, 111, 10] = (toL kA, 0) := by decide +kernel
theorem ex_quote : quoF (toL kQ) = ([62, 32, 97, 10, 62, 62, 32, 98, 10, 62, 10], 0) := by decide +kernel
theorem ex_level : levN [62, 62, 32, 120] = 2 ∧ levR [62, 62, 32, 120] = [120] := by decide +kernel
theorem ex_count : (linesF [97, 10, 98]).length = 2 := by decide +kernel
abbrev kF : List Fd := [([83, 117, 98, 106, 101, 99, 116], [97])]
abbrev kH : ByteArray := ⟨#[104, 101, 108, 108, 111, 10]⟩
theorem kn_A (w : World) (hsh : w.ShapedOpen Try.prog) : Calls Try.prog 33 #[.string kA] w fun e w' => ∃ A c, 1 ≤ c ∧ e = .returned (.tuple #[.agg #[.slice A 1 c, .string kH], .int .i64 0, .int .i64 0]) ∧ Row w' A (fldsV kF) ∧ Below w.heap.size w w' := by
  refine (art_parse kA w hsh (by decide)).mono ?_
  rintro e w' ⟨v, rfl, hown, hb⟩
  obtain ⟨h1, h2, h3, h4⟩ := ex_parseA
  rw [h1] at hown
  obtain ⟨A, c, rfl, hc, hr⟩ := own_row_cap hown
  exact ⟨A, c, hc, by rw [h2, h3, h4]; rfl, hr, hb⟩
theorem kn_B (w : World) (hsh : w.ShapedOpen Try.prog) : Calls Try.prog 33 #[.string kB] w fun e w' => ∃ A c, e = .returned (.tuple #[.agg #[.slice A 0 c, .string ⟨#[]⟩], .int .i64 13, .int .i64 4]) ∧ Below w.heap.size w w' := by
  refine (art_parse kB w hsh (by decide)).mono ?_
  rintro e w' ⟨v, rfl, hown, hb⟩
  obtain ⟨h1, h2, h3, h4⟩ := ex_parseB
  rw [h1] at hown
  obtain ⟨A, c, rfl, hc, hr⟩ := own_row_cap hown
  exact ⟨A, c, by rw [h2, h3, h4]; rfl, hb⟩
theorem kn_P (A : Option Addr) (c : Nat) (w : World) (hsh : w.ShapedOpen Try.prog) (hr : Row w A (fldsV kF)) : Calls Try.prog 34 #[.agg #[.slice A 1 c, .string kH]] w fun e w' => e = .returned (.tuple #[.string kA, .int .i64 0]) ∧ Below w.heap.size w w' := by
  have h : Calls Try.prog 34 #[.agg #[.slice A 1 c, .string kH]] w fun e w' => e = .returned (.tuple #[.string (ofL (priF kF (toL kH)).1), .int .i64 (priF kF (toL kH)).2]) ∧ Below w.heap.size w w' :=
    art_print A kF c kH w hsh hr ⟨by decide, by decide⟩ (by decide)
  rw [show toL kH = [104, 101, 108, 108, 111, 10] from rfl, ex_printA] at h
  exact h
theorem kn_Q (w : World) (hsh : w.ShapedOpen Try.prog) : Calls Try.prog 17 #[.string kQ] w fun e w' => e = .returned (.tuple #[.string ⟨#[62, 32, 97, 10, 62, 62, 32, 98, 10, 62, 10]⟩, .int .i64 0]) ∧ Below w.heap.size w w' := by
  have h := art_quote kQ w hsh (by decide)
  rw [ex_quote] at h
  exact h
theorem kn_L (w : World) : Calls Try.prog 19 #[.string ⟨#[62, 62, 32, 120]⟩] w fun e w' => e = .returned (.tuple #[.int .i64 2, .string ⟨#[120]⟩]) ∧ w = w' := by
  have h := art_level ⟨#[62, 62, 32, 120]⟩ w (by decide)
  rw [show toL ⟨#[62, 62, 32, 120]⟩ = [62, 62, 32, 120] from rfl, ex_level.1, ex_level.2] at h
  exact h
theorem kn_C (w : World) (hsh : w.ShapedOpen Try.prog) : Calls Try.prog 16 #[.string ⟨#[97, 10, 98]⟩] w fun e w' => e = .returned (.int .i64 2) ∧ Below w.heap.size w w' := by
  have h := art_count ⟨#[97, 10, 98]⟩ w hsh (by decide)
  rw [show toL ⟨#[97, 10, 98]⟩ = [97, 10, 98] from rfl, ex_count] at h
  exact h
set_option maxHeartbeats 4000000 in
set_option maxRecDepth 100000 in
theorem art_known (w : World) (hsh : w.ShapedOpen Try.prog) : Calls Try.prog 13 #[] w fun e w' => e = .returned (.bool true) ∧ Below w.heap.size w w' := by
  have HSH := Lib.hid hsh; clear hsh
  go_enter Try.func13, Try.ntmps13
  go_wp2_with fail
  (with_reducible refine (kn_A w HSH.out).mono ?_)
  rintro e w1 ⟨A, c, hc, rfl, hr1, hb1⟩
  have HR1 := Lib.hid hr1; have HB1 := Lib.hid hb1
  have HBX := Lib.hid (show (w1.alloc (.cells #[.slice A 1 c, .string kH] 49)).heap[w1.heap.size]? = some (.cells #[.slice A 1 c, .string kH] 49 (0, 0)) from World.alloc_heap_new _ _)
  have hB2 : Below w.heap.size w (w1.alloc (.cells #[.slice A 1 c, .string kH] 49)) := hb1.alloc hb1.size _
  have HB2 := Lib.hid hB2
  have HR2 := Lib.hid (hr1.below (w' := w1.alloc (.cells #[.slice A 1 c, .string kH] 49)) ((Below.refl _ _).alloc (Nat.le_refl _) _))
  clear hr1 hb1 hB2
  generalize hX2 : w1.alloc (.cells #[.slice A 1 c, .string kH] 49) = X2 at *
  have hz2 : w1.heap.size < X2.heap.size := heap_lt HBX.out
  have HX2 := Lib.hid hX2
  clear hX2 HR1 HB1
  go_wp2_with fail
  rw [HX2.out]
  (with_reducible refine (kn_P A c X2 (shaped_below HSH.out HB2.out) HR2.out).mono ?_)
  rintro e w3 ⟨rfl, hb3⟩
  have HB3 := Lib.hid (HB2.out.trans (hb3.mono HB2.out.size))
  have HBX3 := Lib.hid ((hb3.block _ (heap_lt HBX.out)).trans HBX.out)
  have HR3 := Lib.hid (HR2.out.below hb3)
  clear hb3 HBX HR2 HX2
  generalize w1.heap.size = r at *
  go_wp2_with fail
  (with_reducible refine (kn_B w3 (shaped_below HSH.out HB3.out)).mono ?_)
  rintro e w4 ⟨A4, c4, rfl, hb4⟩
  have hB5 : Below w3.heap.size w3 (w4.alloc (.cells #[.slice A4 0 c4, .string ⟨#[]⟩] 49)) := hb4.alloc hb4.size _
  have HB5 := Lib.hid (HB3.out.trans (hB5.mono HB3.out.size))
  have HBX5 := Lib.hid ((hB5.block _ (heap_lt HBX3.out)).trans HBX3.out)
  have HR5 := Lib.hid (HR3.out.below hB5)
  clear hb4 HBX3 HR3 hB5
  go_wp2_with fail
  generalize w4.alloc (.cells #[.slice A4 0 c4, .string ⟨#[]⟩] 49) = X5 at *
  (with_reducible refine (kn_Q X5 (shaped_below HSH.out HB5.out)).mono ?_)
  rintro e w6 ⟨rfl, hb6⟩
  have HB6 := Lib.hid (HB5.out.trans (hb6.mono HB5.out.size))
  have HBX6 := Lib.hid ((hb6.block _ (heap_lt HBX5.out)).trans HBX5.out)
  have HR6 := Lib.hid (HR5.out.below hb6)
  clear hb6 HBX5 HR5
  go_wp2_with fail
  (with_reducible refine (kn_L w6).mono ?_)
  rintro e w7 ⟨rfl, rfl⟩
  have k0 : w6.cell? ⟨r, 0, none⟩ = some (.slice A 1 c) := by rw [Lib.cell_of_heap HBX6.out]; rfl
  have k1 : w6.cell? ⟨r, 1, none⟩ = some (.string kH) := by rw [Lib.cell_of_heap HBX6.out]; rfl
  obtain ⟨bb, off, rfl, -⟩ := HR6.out.at (k := 0) (by decide)
  obtain ⟨l0, l1⟩ := HR6.out.field' (k := 0) (by decide) (n := ⟨#[83, 117, 98, 106, 101, 99, 116]⟩) (b := ⟨#[97]⟩) rfl rfl
  rw [Nat.zero_mul, Nat.add_zero] at l0 l1
  go_wp2_with fail
  (with_reducible refine (kn_C w6 (shaped_below HSH.out HB6.out)).mono ?_)
  rintro e w8 ⟨rfl, hb8⟩
  go_wp2_with fail
  go_ret
  exact ⟨rfl, HB6.out.trans (hb8.mono HB6.out.size)⟩
set_option maxHeartbeats 4000000 in
set_option maxRecDepth 100000 in
theorem law_short (a : ByteArray) (ha : a.size ≤ maxLen) (n : Nat) (k : Int) (hk : k = (n : Int)) (w : World) (hn : n ≤ 1000000) : Calls Try.prog 10 #[.string a,   .int .i64 k] w fun e w' => e = .returned (.string (a.extract 0 (min a.size n))) ∧ w = w' := by
  subst hk
  unfold maxLen at ha
  have hm : min (a.size : Int) (n : Int) = ((min a.size n : Nat) : Int) := by omega
  have h0 : (0 : Int) ≤ ((min a.size n : Nat) : Int) := by omega
  have h1 : ((min a.size n : Nat) : Int) ≤ (a.size : Int) := by omega
  have HT := Lib.hid (show (((min a.size n : Nat) : Int)).toNat = min a.size n from by omega)
  generalize min a.size n = m at *
  go_enter Try.func10, Try.ntmps10
  go_wp2_with fail
  go_ret
  exact ⟨rfl, rfl⟩
theorem short_size (a : ByteArray) (n : Nat) : (a.extract 0 (min a.size n)).size ≤ n := by rw [extract_size _ _ _ (by omega)]; omega
end Go.Proofs.Ytcohgjdijhogbaa
