/- The walk over known, the chapter's examples. -/
import Derived.Test.YtgfgjkafkdfjpaaDoorRoute2
import Derived.Test.YtgfgjkafkdfjpaaDoorRoute3
import Derived.Test.YtgfgjkafkdfjpaaDoorRoute5
import Derived.Test.YtgfgjkafkdfjpaaDoorRoute7
namespace Go.Proofs.YtgfgjkafkdfjpaaDoor
set_option linter.unusedSimpArgs false
set_option linter.unusedVariables false
open Go.RowKit

theorem ex_parse1 : parseR (toL ⟨#[99, 33, 98, 33, 97]⟩) = ([[99], [98], [97]], 0, 0) := by decide +kernel
theorem ex_parse2 : parseR (toL ⟨#[97, 33, 33, 98]⟩) = ([], 2, 4) := by decide +kernel
theorem ex_links : linksR [[99], [98], [97]] = [([97], [98]), ([98], [99])] := by decide +kernel
theorem ex_prep : prependR [[99], [98], [97]] (toL ⟨#[100]⟩) = ([[100], [99], [98], [97]], 0) := by decide +kernel
theorem ex_loop : loopR [[98], [99], [98], [97]] = ([98], true) := by decide +kernel
theorem ex_common : commonR [[120], [98], [97]] [[121], [122], [98], [97]] = [[98], [97]] := by decide +kernel
theorem row_lit (w : World) (l : List Bs) (t : TypeId) : Row (w.alloc (.cells (strsL l).toArray t)) (some ⟨w.heap.size, 0, none⟩) (strsL l) := by
  refine Row.mk _ _ _ _ (by simp) fun j v hv => ?_
  rw [Nat.zero_add, Lib.cell_of_heap (heap_alloc_new w _)]
  simpa using hv

set_option maxHeartbeats 4000000 in
set_option maxRecDepth 100000 in
theorem law_known (w : World) (hsh : w.ShapedOpen Tryd.prog) : Calls Tryd.prog 13 #[] w fun e w' => e = .returned (.bool true) ∧ Below w.heap.size w w' := by
  have HSH := Lib.hid hsh; clear hsh
  go_enter Tryd.func13, Tryd.ntmps13
  go_wp2_with fail
  (with_reducible refine (rt_parse _ w HSH.out (by decide)).mono ?_)
  rintro e w1 ⟨v1, rfl, hF1⟩
  rw [ex_parse1] at hF1 ⊢
  simp only at hF1 ⊢
  obtain ⟨A1, c1, rfl, hcap1, hrow1⟩ := own_row_cap hF1.own
  have hw1 := hF1.bel
  simp only [List.length_cons, List.length_nil, Nat.zero_add, Nat.reduceAdd] at hcap1 ⊢
  have hlk : Calls Tryd.prog 26 #[.slice A1 3 c1] w1 fun e w' => ∃ v, e = .returned v ∧ PrsOwn w1 w' v (linksR [[99], [98], [97]]) := rt_links A1 [[99], [98], [97]] c1 w1 hrow1 (by decide)
  rw [ex_links] at hlk
  have HLK := Lib.hid hlk; clear hlk hF1
  go_wp2_with fail
  (with_reducible refine HLK.out.mono ?_)
  rintro e w2 ⟨v2, rfl, hF2⟩
  obtain ⟨A2, c2, rfl, hcap2, hrow2⟩ := own_row_cap hF2.own
  have hb2 := hF2.bel
  have hw2 := hw1.trans (hb2.mono hw1.size)
  have hr12 := hrow1.below hb2
  simp only [List.length_cons, List.length_nil, Nat.zero_add, Nat.reduceAdd]
  have hpp : Calls Tryd.prog 20 #[.slice A1 3 c1, .string ⟨#[100]⟩] w2 fun e w' => ∃ v, e = .returned (.tuple #[v, .int .i64 (prependR [[99], [98], [97]] (toL ⟨#[100]⟩)).2]) ∧ StrsOwn w2 w' v (prependR [[99], [98], [97]] (toL ⟨#[100]⟩)).1 :=
    rt_prepend A1 [[99], [98], [97]] c1 ⟨#[100]⟩ w2 hr12 ⟨by decide, by decide⟩ (by decide)
  rw [ex_prep] at hpp
  have HPP := Lib.hid hpp; clear hpp hF2 hrow1
  go_wp2_with fail
  (with_reducible refine HPP.out.mono ?_)
  rintro e w3 ⟨v3, rfl, hF3⟩
  obtain ⟨A3, c3, rfl, hcap3, hrow3⟩ := own_row_cap hF3.own
  have hb3 := hF3.bel
  have hw3 := hw2.trans (hb3.mono hw2.size)
  have hr13 := hr12.below hb3
  have hr23 := hrow2.below hb3
  simp only [List.length_cons, List.length_nil, Nat.zero_add, Nat.reduceAdd] at hcap3 ⊢
  clear hF3 hr12 hrow2 HLK HPP
  have HSH3 := Lib.hid (shaped_below HSH.out hw3)
  go_wp2_with fail
  (with_reducible refine (rt_parse _ w3 HSH3.out (by decide)).mono ?_)
  rintro e w4 ⟨v4, rfl, hF4⟩
  rw [ex_parse2] at hF4 ⊢
  have hb4 := hF4.bel
  have hw4 := hw3.trans (hb4.mono hw3.size)
  have hr14 := hr13.below hb4
  have hr24 := hr23.below hb4
  have hr34 := hrow3.below hb4
  clear hF4 hr13 hr23 hrow3
  have hlo : Calls Tryd.prog 23 #[.slice (some ⟨w4.heap.size, 0, none⟩) 4 4] (w4.alloc (.cells #[.string ⟨#[98]⟩, .string ⟨#[99]⟩, .string ⟨#[98]⟩, .string ⟨#[97]⟩] 9)) fun e w' => e = .returned (.tuple #[.string (ofL (loopR [[98], [99], [98], [97]]).1), .bool (loopR [[98], [99], [98], [97]]).2]) ∧ Below (w4.alloc (.cells #[.string ⟨#[98]⟩, .string ⟨#[99]⟩, .string ⟨#[98]⟩, .string ⟨#[97]⟩] 9)).heap.size (w4.alloc (.cells #[.string ⟨#[98]⟩, .string ⟨#[99]⟩, .string ⟨#[98]⟩, .string ⟨#[97]⟩] 9)) w' :=
    rt_loop _ [[98], [99], [98], [97]] 4 _ (row_lit w4 [[98], [99], [98], [97]] 9) (by decide) (by decide)
  rw [ex_loop] at hlo
  rw [show ofL (([98], true) : Bs × Bool).1 = ⟨#[98]⟩ from rfl] at hlo
  have HLO := Lib.hid hlo; clear hlo
  have hA4 : Below w4.heap.size w4 (w4.alloc (.cells #[.string ⟨#[98]⟩, .string ⟨#[99]⟩, .string ⟨#[98]⟩, .string ⟨#[97]⟩] 9)) := (Below.refl _ _).alloc (Nat.le_refl _) _
  go_wp2_with fail
  (with_reducible refine HLO.out.mono ?_)
  rintro e w5 ⟨rfl, hb5'⟩
  have hb5 := hA4.trans (hb5'.mono hA4.size)
  clear hb5' hA4
  have hw5 := hw4.trans (hb5.mono hw4.size)
  have hr15 := hr14.below hb5
  have hr25 := hr24.below hb5
  have hr35 := hr34.below hb5
  clear hr14 hr24 hr34 HLO
  obtain ⟨X, hX⟩ : ∃ X, X = (w5.alloc (.cells #[.string ⟨#[120]⟩, .string ⟨#[98]⟩, .string ⟨#[97]⟩] 9)) := ⟨_, rfl⟩
  have hbX : Below w5.heap.size w5 X := by rw [hX]; exact (Below.refl _ _).alloc (Nat.le_refl _) _
  have hrX : Row X (some ⟨w5.heap.size, 0, none⟩) (strsL [[120], [98], [97]]) := by rw [hX]; exact row_lit w5 [[120], [98], [97]] 9
  have hzX : X.heap.size = w5.heap.size + 1 := by rw [hX]; simp
  obtain ⟨Y, hY⟩ : ∃ Y, Y = (X.alloc (.cells #[.string ⟨#[121]⟩, .string ⟨#[122]⟩, .string ⟨#[98]⟩, .string ⟨#[97]⟩] 9)) := ⟨_, rfl⟩
  have hbY : Below X.heap.size X Y := by rw [hY]; exact (Below.refl _ _).alloc (Nat.le_refl _) _
  have hrY : Row Y (some ⟨w5.heap.size + 1, 0, none⟩) (strsL [[121], [122], [98], [97]]) := by rw [hY, ← hzX]; exact row_lit X [[121], [122], [98], [97]] 9
  have hcm : Calls Tryd.prog 28 #[.slice (some ⟨w5.heap.size, 0, none⟩) 3 3, .slice (some ⟨w5.heap.size + 1, 0, none⟩) 4 4] Y fun e w' => ∃ v, e = .returned v ∧ StrsOwn Y w' v (commonR [[120], [98], [97]] [[121], [122], [98], [97]]) :=
    rt_common _ _ [[120], [98], [97]] [[121], [122], [98], [97]] 3 4 Y (hrX.below hbY) hrY (by decide) (by decide) (by decide)
  rw [ex_common] at hcm
  have HCM := Lib.hid hcm
  have HX := Lib.hid hX; have HY := Lib.hid hY
  clear hcm hX hY hzX
  go_wp2_with fail
  rw [← HX.out, ← HY.out]
  (with_reducible refine HCM.out.mono ?_)
  rintro e w6 ⟨v6, rfl, hF6⟩
  obtain ⟨A6, c6, rfl, hcap6, hrow6⟩ := own_row_cap hF6.own
  have hb6 : Below w5.heap.size w5 w6 := (hbX.trans (hbY.mono hbX.size)).trans (hF6.bel.mono (hbX.trans (hbY.mono hbX.size)).size)
  have hw6 := hw5.trans (hb6.mono hw5.size)
  have hr16 := hr15.below hb6
  have hr26 := hr25.below hb6
  have hr36 := hr35.below hb6
  simp only [List.length_cons, List.length_nil, Nat.zero_add, Nat.reduceAdd]
  clear hF6 hr15 hr25 hr35 HX HY HCM hbX hbY hrX hrY
  have hst : Calls Tryd.prog 15 #[.slice A3 4 c3] w6 fun e w' => e = .returned (.string (ofL (joinM [[100], [99], [98], [97]]))) ∧ Below w6.heap.size w6 w' := rt_string A3 [[100], [99], [98], [97]] c3 w6 hr36 hcap3 (by decide) (by decide)
  rw [show ofL (joinM [[100], [99], [98], [97]]) = ⟨#[100, 33, 99, 33, 98, 33, 97]⟩ from rfl] at hst
  have HST := Lib.hid hst
  have HR6 := Lib.hid hrow6
  obtain ⟨b1, o1, rfl, r0⟩ := hr16.str (k := 0) (by decide) (x := ⟨#[99]⟩) rfl
  obtain ⟨b2, o2, rfl, l0, l1⟩ := hr26.pair (k := 0) (by decide) (x := ⟨#[97]⟩) (y := ⟨#[98]⟩) rfl rfl
  obtain ⟨b2', o2', e2, l2, l3⟩ := hr26.pair (k := 1) (by decide) (x := ⟨#[98]⟩) (y := ⟨#[99]⟩) rfl rfl
  injection e2 with e2; injection e2 with e2 e3; subst e2 e3
  rw [Nat.add_zero] at r0
  rw [Nat.zero_mul, Nat.add_zero] at l0 l1
  rw [Nat.one_mul] at l2 l3
  have h2a : ∀ wx, (Op.equalIn 10000 49 (.agg #[.string ⟨#[97]⟩, .string ⟨#[98]⟩]) (.agg #[.string ⟨#[97]⟩, .string ⟨#[98]⟩])).run Tryd.prog wx = .ok true wx := fun wx => by
    have := two_eq two_str wx 9998 ⟨#[97]⟩ ⟨#[98]⟩ ⟨#[97]⟩ ⟨#[98]⟩
    simpa using this
  have h2b : ∀ wx, (Op.equalIn 10000 49 (.agg #[.string ⟨#[98]⟩, .string ⟨#[99]⟩]) (.agg #[.string ⟨#[98]⟩, .string ⟨#[99]⟩])).run Tryd.prog wx = .ok true wx := fun wx => by
    have := two_eq two_str wx 9998 ⟨#[98]⟩ ⟨#[99]⟩ ⟨#[98]⟩ ⟨#[99]⟩
    simpa using this
  clear hst hr16 hr26 hr36 hrow6
  go_wp2_with fail
  (with_reducible refine HST.out.mono ?_)
  rintro e w7 ⟨rfl, hb7⟩
  have hr67 := HR6.out.below hb7
  obtain ⟨b6, o6, rfl, m0⟩ := hr67.str (k := 0) (by decide) (x := ⟨#[98]⟩) rfl
  obtain ⟨b6', o6', e6, m1⟩ := hr67.str (k := 1) (by decide) (x := ⟨#[97]⟩) rfl
  injection e6 with e6; injection e6 with e6 e7; subst e6 e7
  rw [Nat.add_zero] at m0
  clear hr67 r0 l0 l1 l2 l3 h2a h2b HR6 HST
  go_wp2_with fail
  go_ret
  exact ⟨rfl, hw6.trans (hb7.mono hw6.size)⟩

end Go.Proofs.YtgfgjkafkdfjpaaDoor
