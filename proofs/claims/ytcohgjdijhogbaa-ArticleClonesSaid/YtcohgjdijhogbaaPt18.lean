/- Lemmas and walks, part 18. -/
import Derived.Test.YtcohgjdijhogbaaPt11
import Derived.Test.YtcohgjdijhogbaaPt10
import Derived.Test.YtcohgjdijhogbaaPt17
namespace Go.Proofs.Ytcohgjdijhogbaa
set_option linter.unusedSimpArgs false
set_option linter.unusedVariables false

/-- The header, and where the body begins; -1: there is no empty line. -/
def newF (L : List UInt8) : List UInt8 × Int :=
  if L[0]? = some 10 then ([], 1) else if 0 ≤ Lib.index L [10, 10] then (L.take ((Lib.index L [10, 10]).toNat + 1), Lib.index L [10, 10] + 2) else (L, -1)
structure ParR where
  fields : List Fd
  body : List UInt8
  at_ : Int
  e : Int
def parF (L : List UInt8) : ParR :=
  if 65536 < L.length then ⟨[], [], 65536, 5⟩
  else if (parseF (newF L).1).2.2 ≠ 0 then ⟨[], [], (parseF (newF L).1).2.1, (parseF (newF L).1).2.2⟩
  else if (newF L).2 < 0 then ⟨[], [], (L.length : Nat), 4⟩
  else if (bodyF (L.drop (newF L).2.toNat)).2 ≠ 0 then ⟨[], [], (newF L).2 + ((bodyF (L.drop (newF L).2.toNat)).1 : Nat), (bodyF (L.drop (newF L).2.toNat)).2⟩
  else ⟨(parseF (newF L).1).1, L.drop (newF L).2.toNat, 0, 0⟩
theorem newF_le (L : List UInt8) : (newF L).2 ≤ L.length ∧ -1 ≤ (newF L).2 ∧ (newF L).1.length ≤ L.length := by
  unfold newF
  split
  · rename_i h
    have : 0 < L.length := by
      cases L with
      | nil => simp at h
      | cons => simp
    exact ⟨by simp only; omega, by simp only; omega, by simp⟩
  · split
    · rename_i h
      have := Lib.index_room L [10, 10] h
      simp only [List.length_cons, List.length_nil] at this
      exact ⟨by simp only; omega, by simp only; omega, by simp only [List.length_take]; omega⟩
    · exact ⟨by simp only; omega, by simp only; omega, by simp⟩
/-- What Print answers. -/
def priF (fs : List Fd) (b : List UInt8) : List UInt8 × Int :=
  if (printF fs).2 ≠ 0 then ([], (printF fs).2) else if (bodyF b).2 ≠ 0 then ([], (bodyF b).2) else if 65536 < (printF fs).1.length + 1 + b.length then ([], 5) else ((printF fs).1 ++ 10 :: b, 0)
end Go.Proofs.Ytcohgjdijhogbaa

namespace Go.Proofs.Ytcohgjdijhogbaa
set_option linter.unusedSimpArgs false
set_option linter.unusedVariables false
open Go.RowKit

theorem printGo_le : ∀ (l : List Fd) (out : List UInt8), (printGo l out).1.length ≤ 65536
  | [], out => by
    rw [printGo]; split
    · simp
    · simp only; omega
  | f :: r, out => by
    rw [printGo]; split
    · simp
    · exact printGo_le r _
theorem printF_le (l : List Fd) : (printF l).1.length ≤ 65536 := by
  unfold printF; split
  · simp
  · exact printGo_le l _
set_option maxHeartbeats 4000000 in
set_option maxRecDepth 100000 in
theorem art_print (A : Option Addr) (l : List Fd) (c : Nat) (b : ByteArray) (w : World) (hsh : w.ShapedOpen Try.prog) (hr : Row w A (fldsV l)) (hl : Mild l) (hs : b.size ≤ 900000) :
    Calls Try.prog 34 #[.agg #[.slice A l.length c, .string b]] w fun e w' => e = .returned (.tuple #[.string (ofL (priF l (toL b)).1), .int .i64 (priF l (toL b)).2]) ∧ Below w.heap.size w w' := by
  have HSH := Lib.hid hsh
  have hBa : Below w.heap.size w (w.alloc (.cells #[.slice A l.length c, .string b] 49)) := (Below.refl _ _).alloc (Nat.le_refl _) _
  have HBa := Lib.hid hBa
  have HBX := Lib.hid (show (w.alloc (.cells #[.slice A l.length c, .string b] 49)).heap[w.heap.size]? = some (.cells #[.slice A l.length c, .string b] 49 (0, 0)) from World.alloc_heap_new _ _)
  have HPR := Lib.hid (fld_print A l c (w.alloc (.cells #[.slice A l.length c, .string b] 49)) (hr.below hBa) hl)
  have HV0 := Lib.hid (show priF l (toL b) = if (printF l).2 ≠ 0 then ([], (printF l).2) else if (bodyF (toL b)).2 ≠ 0 then ([], (bodyF (toL b)).2) else if 65536 < (printF l).1.length + 1 + (toL b).length then ([], 5) else ((printF l).1 ++ 10 :: toL b, 0) from rfl)
  have hpl := printF_le l
  have HL := Lib.hid (toL_length b)
  rw [HL.out] at HV0
  have HBD := Lib.hid (fun wx hx => art_body b wx hx hs)
  clear hsh hr hl hBa
  generalize printF l = pf at *
  obtain ⟨ht, he⟩ := pf
  simp only at HPR HV0 hpl
  have hts : (ofL ht).size = ht.length := ofL_size _
  obtain ⟨H, hH⟩ : ∃ H, H = ofL ht := ⟨_, rfl⟩
  have HH := Lib.hid (show ht = toL H from by rw [hH, toL_ofL])
  rw [← hH] at HPR hts
  clear hH
  by_cases h1 : he = 0
  · subst h1
    by_cases h2 : (bodyF (toL b)).2 = 0
    · generalize bodyF (toL b) = bf at *
      obtain ⟨bn, be⟩ := bf
      simp only at h2 HBD HV0
      subst h2
      rw [if_neg (by simp), if_neg (by simp)] at HV0
      by_cases h3 : 65536 < ht.length + 1 + b.size
      · have HV := Lib.hid (show priF l (toL b) = ([], 5) from by rw [HV0.out, if_pos h3])
        have h3' : (65536 : Int) < (H.size : Int) + 1 + (b.size : Int) := by omega
        have hHs : H.size ≤ 65536 := by omega
        clear h3 HV0 hts
        go_enter Try.func34, Try.ntmps34
        go_wp2_with fail
        (with_reducible refine HPR.out.mono ?_)
        rintro e w1 ⟨rfl, hb1⟩
        have hbx1 := (hb1.block w.heap.size (by simp)).trans HBX.out
        have g1 : w1.cell? ⟨w.heap.size, 1, none⟩ = some (.string b) := by rw [Lib.cell_of_heap hbx1]; rfl
        have HB1 := Lib.hid (HBa.out.trans (hb1.mono (by simp)))
        have HX1 := Lib.hid hbx1
        clear hb1 hbx1
        go_wp2_with fail
        (with_reducible refine (HBD.out _ (shaped_below HSH.out HB1.out)).mono ?_)
        rintro e w2 ⟨rfl, hb2⟩
        have g2 : w2.cell? ⟨w.heap.size, 1, none⟩ = some (.string b) := by rw [Lib.cell_of_heap ((hb2.block _ (heap_lt HX1.out)).trans HX1.out)]; rfl
        have HB2 := Lib.hid (HB1.out.trans (hb2.mono HB1.out.size))
        clear hb2 g1
        go_wp2_with fail
        go_ret2
        exact ⟨by rw [HV.out]; rfl, HB2.out⟩
      · have HV := Lib.hid (show priF l (toL b) = (toL ((H ++ ⟨#[10]⟩) ++ b), 0) from by rw [HV0.out, if_neg h3, HH.out]; simp [toL])
        have h3' : (H.size : Int) + 1 + (b.size : Int) ≤ 65536 := by omega
        have hHs : H.size ≤ 65536 := by omega
        clear h3 HV0 hts
        go_enter Try.func34, Try.ntmps34
        go_wp2_with fail
        (with_reducible refine HPR.out.mono ?_)
        rintro e w1 ⟨rfl, hb1⟩
        have hbx1 := (hb1.block w.heap.size (by simp)).trans HBX.out
        have g1 : w1.cell? ⟨w.heap.size, 1, none⟩ = some (.string b) := by rw [Lib.cell_of_heap hbx1]; rfl
        have HB1 := Lib.hid (HBa.out.trans (hb1.mono (by simp)))
        have HX1 := Lib.hid hbx1
        clear hb1 hbx1
        go_wp2_with fail
        (with_reducible refine (HBD.out _ (shaped_below HSH.out HB1.out)).mono ?_)
        rintro e w2 ⟨rfl, hb2⟩
        have g2 : w2.cell? ⟨w.heap.size, 1, none⟩ = some (.string b) := by rw [Lib.cell_of_heap ((hb2.block _ (heap_lt HX1.out)).trans HX1.out)]; rfl
        have HB2 := Lib.hid (HB1.out.trans (hb2.mono HB1.out.size))
        clear hb2 g1
        go_wp2_with fail
        go_ret2
        exact ⟨by rw [HV.out, ofL_toL]; rfl, HB2.out⟩
    · generalize bodyF (toL b) = bf at *
      obtain ⟨bn, be⟩ := bf
      simp only at h2 HBD HV0
      have HV := Lib.hid (show priF l (toL b) = ([], be) from by rw [HV0.out, if_neg (by simp), if_pos h2])
      have e1 : (be != 0) = true := by simp [bne, h2]
      clear h2 HV0
      go_enter Try.func34, Try.ntmps34
      go_wp2_with fail
      (with_reducible refine HPR.out.mono ?_)
      rintro e w1 ⟨rfl, hb1⟩
      have hbx1 := (hb1.block w.heap.size (by simp)).trans HBX.out
      have g1 : w1.cell? ⟨w.heap.size, 1, none⟩ = some (.string b) := by rw [Lib.cell_of_heap hbx1]; rfl
      have HB1 := Lib.hid (HBa.out.trans (hb1.mono (by simp)))
      clear hb1 hbx1
      go_wp2_with fail
      (with_reducible refine (HBD.out _ (shaped_below HSH.out HB1.out)).mono ?_)
      rintro e w2 ⟨rfl, hb2⟩
      have HB2 := Lib.hid (HB1.out.trans (hb2.mono HB1.out.size))
      clear hb2 g1
      go_wp2_with fail
      go_ret2
      exact ⟨by rw [HV.out]; rfl, HB2.out⟩
  · have HV := Lib.hid (show priF l (toL b) = ([], he) from by rw [HV0.out, if_pos h1])
    have e1 : (he != 0) = true := by simp [bne, h1]
    clear h1 HV0
    go_enter Try.func34, Try.ntmps34
    go_wp2_with fail
    (with_reducible refine HPR.out.mono ?_)
    rintro e w1 ⟨rfl, hb1⟩
    have HB1 := Lib.hid (HBa.out.trans (hb1.mono (by simp)))
    clear hb1
    go_wp2_with fail
    go_ret2
    exact ⟨by rw [HV.out]; rfl, HB1.out⟩
end Go.Proofs.Ytcohgjdijhogbaa
