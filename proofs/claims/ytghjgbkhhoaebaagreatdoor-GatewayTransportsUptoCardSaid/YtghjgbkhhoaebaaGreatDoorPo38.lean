/- Lemmas and walks, part 38. -/
import Derived.Test.YtghjgbkhhoaebaaGreatDoorPo30
import Derived.Test.YtghjgbkhhoaebaaGreatDoorPo16
namespace Go.Proofs.YtghjgbkhhoaebaaGreatDoor
set_option linter.unusedSimpArgs false
set_option linter.unusedVariables false
open Go.RowKit

abbrev kT : ByteArray := ⟨#[91, 53, 93, 32, 60, 97, 110, 110, 62, 32, 104, 105]⟩
abbrev kT2 : ByteArray := ⟨#[91, 53, 93, 32, 60, 57, 62, 32, 104, 105]⟩
abbrev kT3 : ByteArray := ⟨#[91, 53, 93, 32, 60, 97, 110, 110, 62, 32]⟩
abbrev kAnn : ByteArray := ⟨#[97, 110, 110]⟩
abbrev kHi : ByteArray := ⟨#[104, 105]⟩
theorem ex_line : lineE 5 (toL kAnn) (toL kHi) = 0 := by decide +kernel
theorem ex_show : showL 5 (toL kAnn) (toL kHi) = toL kT := by
  unfold showL
  rw [Go.Lib.decDigits]
  decide +kernel
theorem ex_prl : prlF 5 (toL kAnn) (toL kHi) = (toL kT, 0) := by
  unfold prlF
  rw [if_pos ex_line]
  exact congrArg (fun x => (x, (0 : Int))) ex_show
theorem ex_par1 : (parL (toL kT)).1.min = 5 ∧ (parL (toL kT)).1.nick = toL kAnn ∧ (parL (toL kT)).1.text = toL kHi ∧ (parL (toL kT)).2 = (0, 0) := by decide +kernel
theorem ex_par2 : (parL (toL kT2)).1.min = 0 ∧ (parL (toL kT2)).1.nick = [] ∧ (parL (toL kT2)).1.text = [] ∧ (parL (toL kT2)).2 = (5, 12) := by decide +kernel
theorem ex_par3 : (parL (toL kT3)).1.min = 0 ∧ (parL (toL kT3)).1.nick = [] ∧ (parL (toL kT3)).1.text = [] ∧ (parL (toL kT3)).2 = (10, 4) := by decide +kernel
theorem ex_base : baseN (toL ⟨#[74, 46, 32, 82, 46, 32, 68, 111, 101]⟩) = [74, 82, 68, 111, 101] := by decide +kernel
theorem dec_two : Go.Lib.decDigits 2 = [50] := by rw [Go.Lib.decDigits]; decide +kernel
theorem ex_nick : nickF (toL ⟨#[74, 46, 32, 82, 46, 32, 68, 111, 101]⟩) [[106, 114, 100, 111, 101]] = ([74, 82, 68, 111, 101, 50], 0) := by
  unfold nickF
  rw [if_neg (by decide)]
  have h1 : takenB (nthN [74, 82, 68, 111, 101] 1) [[106, 114, 100, 111, 101]] = true := by decide +kernel
  have h2 : nthN [74, 82, 68, 111, 101] 2 = [74, 82, 68, 111, 101, 50] := by
    unfold nthN; rw [if_neg (by decide), dec_two]; decide +kernel
  have h3 : takenB [74, 82, 68, 111, 101, 50] [[106, 114, 100, 111, 101]] = false := by decide +kernel
  have h : firstN [74, 82, 68, 111, 101] [[106, 114, 100, 111, 101]] 3000 1 = 2 := by
    rw [show (3000 : Nat) = 2998 + 1 + 1 from rfl, firstN, if_pos h1, firstN, h2, if_neg (by rw [h3]; decide)]
  unfold chooseN
  rw [ex_base, h, h2]
theorem ex_new : newE (toL ⟨#[35, 103, 111]⟩) (toL ⟨#[97, 46, 98]⟩) (toL ⟨#[114, 101, 108, 97, 121]⟩) = 0 := by decide +kernel
theorem ex_hear : hearE 5 (toL kAnn) (toL kHi) 0 = 0 := by
  unfold hearE; rw [if_neg (by rw [ex_line]; decide), if_neg (by decide)]
theorem ex_hearL : hearL [] 5 (toL kAnn) (toL kHi) (toL ⟨#[114, 101, 108, 97, 121]⟩) = [⟨5, toL kAnn, toL kHi⟩] := by
  unfold hearL; rw [if_neg (by decide +kernel)]; rfl

theorem kn_P (w : World) (ht : TabN w) : Calls Tryz.prog 31 #[.agg #[.int .i64 5, .string kAnn, .string kHi]] w fun e w' => e = .returned (.tuple #[.string kT, .int .i64 0]) ∧ Below w.heap.size w w' := by
  have h := gw_printLine 5 kAnn kHi (by decide) (by decide) w ht
  rw [ex_prl] at h
  exact h
theorem kn_par {s : ByteArray} {w : World} {m : Nat} {n t : Bs} {at_ : Nat} {er : Int} (h : (parL (toL s)).1.min = m ∧ (parL (toL s)).1.nick = n ∧ (parL (toL s)).1.text = t ∧ (parL (toL s)).2 = (at_, er)) (hsh : w.ShapedOpen Tryz.prog) (hs : s.size ≤ 900000) :
    Calls Tryz.prog 32 #[.string s] w fun e w' => e = .returned (.tuple #[.agg #[.int .i64 (m : Int), .string (ofL n), .string (ofL t)], .int .i64 (at_ : Int), .int .i64 er]) ∧ Below w.heap.size w w' := by
  refine (gw_parseLine s w hsh hs).mono ?_
  rintro e w' ⟨he, hb⟩
  obtain ⟨h1, h2, h3, h4⟩ := h
  refine ⟨?_, hb⟩
  rw [he, ← h1, ← h2, ← h3, h4]; rfl
theorem kn_N (A : Option Addr) (w : World) (ht : TabN w) (hr : Row w A [.string ⟨#[106, 114, 100, 111, 101]⟩]) : Calls Tryz.prog 33 #[.string ⟨#[74, 46, 32, 82, 46, 32, 68, 111, 101]⟩, .slice A 1 1] w fun e w' => e = .returned (.tuple #[.string ⟨#[74, 82, 68, 111, 101, 50]⟩, .int .i64 0]) ∧ Below w.heap.size w w' := by
  have h := gw_nick ⟨#[74, 46, 32, 82, 46, 32, 68, 111, 101]⟩ A [[106, 114, 100, 111, 101]] 1 w ht hr (by decide) (by decide) (by intro x hx; simp at hx; subst hx; decide)
  rw [ex_nick] at h
  exact h
theorem kn_W (w : World) (hsh : w.ShapedOpen Tryz.prog) : Calls Tryz.prog 10 #[.string ⟨#[35, 103, 111]⟩, .string ⟨#[97, 46, 98]⟩, .string ⟨#[114, 101, 108, 97, 121]⟩] w fun e w' => ∃ b m1 m2, e = .returned (.tuple #[.pointer (some ⟨b, 0, none⟩), .int .i64 0]) ∧ GwAt w' b ⟨#[35, 103, 111]⟩ ⟨#[97, 46, 98]⟩ ⟨#[114, 101, 108, 97, 121]⟩ (.slice none 0 0) [] 0 m1 m2 ∧ w.heap.size ≤ b ∧ Below w.heap.size w w' := by
  refine (gw_new ⟨#[35, 103, 111]⟩ ⟨#[97, 46, 98]⟩ ⟨#[114, 101, 108, 97, 121]⟩ w hsh (by decide) (by decide) (by decide)).mono ?_
  rintro e w' (⟨_, b, m1, m2, h⟩ | ⟨h, _⟩)
  · exact ⟨b, m1, m2, h⟩
  · exact absurd ex_new h
/-- A gateway that has heard one line. -/
def Gw1 (b : Nat) (w : World) : Prop := ∃ R G N v last m1 m2, GwAt w b R G N v [⟨5, toL kAnn, toL kHi⟩] last m1 m2
theorem kn_H (b m1 m2 : Nat) (w : World) (h : GwAt w b ⟨#[35, 103, 111]⟩ ⟨#[97, 46, 98]⟩ ⟨#[114, 101, 108, 97, 121]⟩ (.slice none 0 0) [] 0 m1 m2) : Calls Tryz.prog 20 #[.pointer (some ⟨b, 0, none⟩), .agg #[.int .i64 5, .string kAnn, .string kHi]] w fun e w' => e = .returned (.int .i64 0) ∧ Gw1 b w' ∧ Below b w w' := by
  refine (gw_hear h 5 kAnn kHi (by decide) (by decide) (by decide) (by decide)).mono ?_
  rintro e w' ⟨h1, ⟨v', h2, _⟩, h3, _⟩
  rw [ex_hear] at h1 h2
  rw [if_pos rfl, if_pos rfl, ex_hearL] at h2
  exact ⟨h1, ⟨_, _, _, v', 5, m1, m2, h2⟩, h3⟩
theorem kn_V (b : Nat) (w : World) (h : Gw1 b w) : Calls Tryz.prog 19 #[.pointer (some ⟨b, 0, none⟩)] w fun e w' => ∃ A c, e = .returned (.slice A 1 c) ∧ Below w.heap.size w w' := by
  obtain ⟨R, G, N, v, last, m1, m2, h⟩ := h
  refine (gw_waiting h (by decide)).mono ?_
  rintro e w' ⟨A, c, h1, _, h3⟩
  exact ⟨A, c, h1, h3⟩
end Go.Proofs.YtghjgbkhhoaebaaGreatDoor

namespace Go.Proofs.YtghjgbkhhoaebaaGreatDoor
set_option linter.unusedSimpArgs false
set_option linter.unusedVariables false
open Go.RowKit

abbrev lnC : Array Value := #[.int .i64 5, .string kAnn, .string kHi]
theorem kn_1 {w : World} (hsh : w.ShapedOpen Tryz.prog) : Calls Tryz.prog 32 #[.string kT] w fun e w' => e = .returned (.tuple #[.agg #[.int .i64 5, .string kAnn, .string kHi], .int .i64 0, .int .i64 0]) ∧ Below w.heap.size w w' := by
  have h := kn_par (w := w) ex_par1 hsh (by decide)
  rw [show ofL (toL kAnn) = kAnn from ofL_toL _, show ofL (toL kHi) = kHi from ofL_toL _] at h
  exact h
theorem kn_2 {w : World} (hsh : w.ShapedOpen Tryz.prog) : Calls Tryz.prog 32 #[.string kT2] w fun e w' => e = .returned (.tuple #[.agg #[.int .i64 0, .string ⟨#[]⟩, .string ⟨#[]⟩], .int .i64 5, .int .i64 12]) ∧ Below w.heap.size w w' := kn_par (w := w) ex_par2 hsh (by decide)
theorem kn_3 {w : World} (hsh : w.ShapedOpen Tryz.prog) : Calls Tryz.prog 32 #[.string kT3] w fun e w' => e = .returned (.tuple #[.agg #[.int .i64 0, .string ⟨#[]⟩, .string ⟨#[]⟩], .int .i64 10, .int .i64 4]) ∧ Below w.heap.size w w' := kn_par (w := w) ex_par3 hsh (by decide)
/-- The boxes of the examples, and what has not changed. -/
structure KnW (w : World) (r1 r2 : Nat) (wx : World) : Prop where
  b1 : wx.heap[r1]? = some (.cells lnC 39 (0, 0))
  b2 : wx.heap[r2]? = some (.cells lnC 39 (0, 0))
  bel : Below w.heap.size w wx
theorem KnW.later {w : World} {r1 r2 : Nat} {wx wy : World} (h : KnW w r1 r2 wx) (hb : Below wx.heap.size wx wy) : KnW w r1 r2 wy :=
  ⟨(hb.block _ (heap_lt h.b1)).trans h.b1, (hb.block _ (heap_lt h.b2)).trans h.b2, h.bel.trans (hb.mono h.bel.size)⟩
theorem KnW.cells {w : World} {r1 r2 : Nat} {wx : World} (h : KnW w r1 r2 wx) : (wx.cell? ⟨r1, 0, none⟩ = some (.int .i64 5) ∧ wx.cell? ⟨r1, 1, none⟩ = some (.string kAnn) ∧ wx.cell? ⟨r1, 2, none⟩ = some (.string kHi)) ∧ (wx.cell? ⟨r2, 0, none⟩ = some (.int .i64 5) ∧ wx.cell? ⟨r2, 1, none⟩ = some (.string kAnn) ∧ wx.cell? ⟨r2, 2, none⟩ = some (.string kHi)) :=
  ⟨⟨by rw [Lib.cell_of_heap h.b1]; rfl, by rw [Lib.cell_of_heap h.b1]; rfl, by rw [Lib.cell_of_heap h.b1]; rfl⟩, by rw [Lib.cell_of_heap h.b2]; rfl, by rw [Lib.cell_of_heap h.b2]; rfl, by rw [Lib.cell_of_heap h.b2]; rfl⟩
theorem KnW.start {w w1 w2 : World} {r1 : Nat} (h1 : w1.heap[r1]? = some (.cells lnC 39 (0, 0))) (hb1 : Below w.heap.size w w1) (hb2 : Below w1.heap.size w1 w2) : KnW w r1 w2.heap.size (w2.alloc (.cells lnC 39)) :=
  ⟨((hb2.trans ((alloc_bel w2 _).mono hb2.size)).block _ (heap_lt h1)).trans h1, heap_alloc_new _ _, hb1.trans ((hb2.trans ((alloc_bel w2 _).mono hb2.size)).mono hb1.size)⟩
set_option maxHeartbeats 8000000 in
set_option maxRecDepth 100000 in
theorem gw_known (w : World) (hsh : w.ShapedOpen Tryz.prog) (ht : TabN w) : Calls Tryz.prog 11 #[] w fun e w' => e = .returned (.bool true) ∧ Below w.heap.size w w' := by
  have HSH := Lib.hid (fun wx (hb : Below w.heap.size w wx) => shaped_below hsh hb); have HT := Lib.hid (fun wx (hb : Below w.heap.size w wx) => ht.below hb); clear hsh ht
  go_enter Tryz.func11, Tryz.ntmps11
  go_upto_region 2 with fail
  have HB1 := Lib.hid (show Below w.heap.size w (w.alloc (.cells lnC 39)) from alloc_bel _ _)
  have HL1 := Lib.hid (show (w.alloc (.cells lnC 39)).heap[w.heap.size]? = some (.cells lnC 39 (0, 0)) from heap_alloc_new _ _)
  generalize w.alloc (.cells lnC 39) = w1 at *
  have l0 : w1.cell? ⟨w.heap.size, 0, none⟩ = some (.int .i64 5) := by rw [Lib.cell_of_heap HL1.out]; rfl
  have l1 : w1.cell? ⟨w.heap.size, 1, none⟩ = some (.string kAnn) := by rw [Lib.cell_of_heap HL1.out]; rfl
  have l2 : w1.cell? ⟨w.heap.size, 2, none⟩ = some (.string kHi) := by rw [Lib.cell_of_heap HL1.out]; rfl
  go_upto_region 3 with ((go_at_call 31; (with_reducible refine (kn_P _ (HT.out _ HB1.out)).mono ?_); rintro e w2 ⟨rfl, hb2⟩))
  go_upto_region 4 with ((go_at_call 32; (with_reducible refine (kn_1 (HSH.out _ (HB1.out.trans (hb2.mono HB1.out.size)))).mono ?_); rintro e w3 ⟨rfl, hb3⟩))
  have HK := Lib.hid (show KnW w w.heap.size w3.heap.size (w3.alloc (.cells lnC 39)) from KnW.start HL1.out HB1.out (hb2.trans (hb3.mono hb2.size)))
  clear l0 l1 l2 hb2 hb3 HL1 HB1
  generalize w3.heap.size = r2 at *
  generalize w3.alloc (.cells lnC 39) = w4 at *
  go_upto_region 5 with ((go_at_call 32; (with_reducible refine (kn_2 (HSH.out _ HK.out.bel)).mono ?_); rintro e w5 ⟨rfl, hb5⟩))
  have HK5 := Lib.hid (HK.out.later (hb5.trans ((alloc_bel w5 (.cells #[.int .i64 0, .string ⟨#[]⟩, .string ⟨#[]⟩] 39)).mono hb5.size)))
  clear hb5 HK
  generalize w5.heap.size = r3 at *
  generalize w5.alloc (.cells #[.int .i64 0, .string ⟨#[]⟩, .string ⟨#[]⟩] 39) = w6 at *
  go_upto_region 6 with ((go_at_call 32; (with_reducible refine (kn_3 (HSH.out _ HK5.out.bel)).mono ?_); rintro e w7 ⟨rfl, hb7⟩))
  have HK7 := Lib.hid (HK5.out.later (hb7.trans ((alloc_bel w7 (.cells #[.int .i64 0, .string ⟨#[]⟩, .string ⟨#[]⟩] 39)).mono hb7.size)))
  clear hb7 HK5
  generalize w7.heap.size = r4 at *
  generalize w7.alloc (.cells #[.int .i64 0, .string ⟨#[]⟩, .string ⟨#[]⟩] 39) = w8 at *
  have HK8 := Lib.hid (HK7.out.later (alloc_bel w8 (.cells #[.string ⟨#[106, 114, 100, 111, 101]⟩] 9)))
  have HR8 := Lib.hid (show Row (w8.alloc (.cells #[.string ⟨#[106, 114, 100, 111, 101]⟩] 9)) (some ⟨w8.heap.size, 0, none⟩) [.string ⟨#[106, 114, 100, 111, 101]⟩] from Row.mk _ _ _ _ (by simp) fun j v hv => by rw [World.cell?_alloc_mark]; simpa using hv)
  go_upto_region 7 with ((go_at_call 33; (with_reducible refine (kn_N _ _ (HT.out _ HK8.out.bel) HR8.out).mono ?_); rintro e w9 ⟨rfl, hb9⟩))
  have HK9 := Lib.hid (HK8.out.later hb9)
  clear hb9 HK8 HK7
  go_upto_region 8 with ((go_at_call 10; (with_reducible refine (kn_W _ (HSH.out _ HK9.out.bel)).mono ?_); rintro e w10 ⟨b, m1, m2, rfl, hg, hbg, hb10⟩))
  have HK10 := Lib.hid (HK9.out.later hb10)
  have HG10 := Lib.hid hg
  have HZ := Lib.hid hbg
  clear hb10 hg hbg
  obtain ⟨⟨l0, l1, l2⟩, k0, k1, k2⟩ := HK10.out.cells
  go_wp2_with (first | (go_at_call 20; (with_reducible refine (kn_H b m1 m2 _ HG10.out).mono ?_); rintro e w11 ⟨rfl, hg11, hb11⟩) | (go_at_call 19; (with_reducible refine (kn_V b _ hg11).mono ?_); rintro e w12 ⟨A, c, rfl, hb12⟩))
  go_ret
  have hz := HZ.out
  have h1 := HK9.out.bel.size
  have h2 := HK10.out.bel
  exact ⟨rfl, h2.trans ((hb11.mono (by omega)).trans (hb12.mono (by have := hb11.size; have := h2.size; omega)))⟩
end Go.Proofs.YtghjgbkhhoaebaaGreatDoor

namespace Go.Proofs.YtghjgbkhhoaebaaGreatDoor
set_option linter.unusedSimpArgs false
set_option linter.unusedVariables false
open Go.RowKit
open Go.Lib (decDigits)

theorem taken_step (s : Bs) (l : List Bs) (k : Nat) (h : k < l.length) : takenB s (l.drop k) = (decide (lowerL l[k] = lowerL s) || takenB s (l.drop (k + 1))) := by
  unfold takenB; rw [List.drop_eq_getElem_cons h, List.any_cons]
theorem one_cutN (s : ByteArray) (k : Nat) (h : k < s.size) : s.extract k (k + 1) = ofL [s[k]'h] := by
  apply toL_inj
  rw [toL_ofL, extract_toL, cutL]
  have hk : k < (toL s).length := by rw [toL_length]; exact h
  rw [List.drop_eq_getElem_cons hk, toL_getElem s k h]
  simp
theorem ext_ofL (B : Bs) (m : Nat) : (ofL B).extract 0 m = ofL (B.take m) := by apply toL_inj; rw [ext_take, toL_ofL, toL_ofL]
theorem min_take (B : Bs) (m : Nat) : B.take (min B.length m) = B.take m := by
  rcases Nat.le_total B.length m with h | h
  · rw [Nat.min_eq_left h, List.take_of_length_le (Nat.le_refl _), List.take_of_length_le h]
  · rw [Nat.min_eq_right h]
end Go.Proofs.YtghjgbkhhoaebaaGreatDoor

namespace Go.Proofs.YtghjgbkhhoaebaaGreatDoor
set_option linter.unusedSimpArgs false
set_option linter.unusedVariables false
open Go.RowKit

theorem box3_cells {w : World} {r : Nat} {a b c : Value} {t : TypeId} (h : w.heap[r]? = some (.cells #[a, b, c] t (0, 0))) : w.cell? ⟨r, 0, none⟩ = some a ∧ w.cell? ⟨r, 1, none⟩ = some b ∧ w.cell? ⟨r, 2, none⟩ = some c ∧ r < w.heap.size :=
  ⟨by rw [Lib.cell_of_heap h]; rfl, by rw [Lib.cell_of_heap h]; rfl, by rw [Lib.cell_of_heap h]; rfl, heap_lt h⟩
theorem box3_free {w : World} {r : Nat} {a b c : Value} {t : TypeId} (h : w.heap[r]? = some (.cells #[a, b, c] t (0, 0))) : w.frozen? ⟨r, 0, none⟩ = false ∧ w.frozen? ⟨r, 1, none⟩ = false ∧ w.frozen? ⟨r, 2, none⟩ = false :=
  ⟨Lib.frozen_of_heap h 0, Lib.frozen_of_heap h 1, Lib.frozen_of_heap h 2⟩
theorem show_len (m : Nat) (hm : m < 9223372036854775808) (N T : Bs) : (showL m N T).length ≤ 30 + N.length + T.length := by
  have := dec_len_lt 19 m (Nat.lt_trans hm (by decide))
  unfold showL; simp only [List.length_cons, List.length_append, List.length_nil]; omega
theorem lw_showI (m : Int) (n t : ByteArray) (hm : ((m.toNat : Nat) : Int) = m) (hn : n.size ≤ 1000000) (ht : t.size ≤ 1000000) (hb : m < 9223372036854775808) (w : World) : Calls Tryz.prog 116 #[.agg #[.int .i64 m, .string n, .string t]] w fun e w' => e = .returned (.string (ofL (showL m.toNat (toL n) (toL t)))) ∧ Below w.heap.size w w' := by
  have h := lw_show m.toNat (by omega) n t hn ht w
  rw [hm] at h
  exact h
theorem par_showI (m : Int) (n t : ByteArray) (hm : ((m.toNat : Nat) : Int) = m) (he : lineE m (toL n) (toL t) = 0) (hn : n.size ≤ 40) (ht : t.size ≤ 450) (hb : m < 9223372036854775808) (w : World) (hsh : w.ShapedOpen Tryz.prog) :
    Calls Tryz.prog 32 #[.string (ofL (showL m.toNat (toL n) (toL t)))] w fun e w' => e = .returned (.tuple #[.agg #[.int .i64 m, .string n, .string t], .int .i64 0, .int .i64 0]) ∧ Below w.heap.size w w' := by
  have hl := show_len m.toNat (by omega) (toL n) (toL t)
  rw [toL_length, toL_length] at hl
  refine (gw_parseLine (ofL (showL m.toNat (toL n) (toL t))) w hsh (by rw [ofL_size]; omega)).mono ?_
  rintro e w' ⟨rfl, hb⟩
  rw [toL_ofL, par_show _ _ _ (by rw [hm]; exact he)]
  exact ⟨by simp only [lnV, ofL_toL, hm]; rfl, hb⟩
theorem lineE_small {m : Int} {n t : Bs} (h : lineE m n t = 0) : m < 9223372036854775808 := by
  unfold lineE at h
  split at h
  · cases h
  · rename_i h1
    unfold minB at h1; simp at h1; omega
theorem lineE_big (m : Int) (n t : Bs) : 0 ≤ lineE m n t ∧ lineE m n t ≤ 12 := by
  unfold lineE textE; repeat' split
  all_goals omega
end Go.Proofs.YtghjgbkhhoaebaaGreatDoor
