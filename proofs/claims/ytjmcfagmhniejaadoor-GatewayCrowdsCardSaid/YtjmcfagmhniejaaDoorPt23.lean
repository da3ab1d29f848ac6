/- Lemmas and walks, part 23. -/
import Derived.Test.YtjmcfagmhniejaaDoorPt20
import Derived.Test.YtjmcfagmhniejaaDoorPt22
namespace Go.Proofs.YtjmcfagmhniejaaDoor
set_option linter.unusedSimpArgs false
set_option linter.unusedVariables false
open Go.RowKit

abbrev kT : ByteArray := ⟨#[91, 53, 93, 32, 60, 97, 110, 110, 62, 32, 104, 105]⟩
abbrev kT2 : ByteArray := ⟨#[91, 53, 93, 32, 60, 57, 62, 32, 104, 105]⟩
abbrev kT3 : ByteArray := ⟨#[91, 53, 93, 32, 60, 97, 110, 110, 62, 32]⟩
abbrev kAnn : ByteArray := ⟨#[97, 110, 110]⟩
abbrev kHi : ByteArray := ⟨#[104, 105]⟩
theorem ex_line : lineE 5 (toL kAnn) (toL kHi) = 0 := by decide +kernel
theorem ex_show : showL 5 (toL kAnn) (toL kHi) = toL kT := by
  unfold showL
  rw [Go.Lib.decDigits]
  decide +kernel
theorem ex_prl : prlF 5 (toL kAnn) (toL kHi) = (toL kT, 0) := by
  unfold prlF
  rw [if_pos ex_line]
  exact congrArg (fun x => (x, (0 : Int))) ex_show
theorem ex_par1 : (parL (toL kT)).1.min = 5 ∧ (parL (toL kT)).1.nick = toL kAnn ∧ (parL (toL kT)).1.text = toL kHi ∧ (parL (toL kT)).2 = (0, 0) := by decide +kernel
theorem ex_par2 : (parL (toL kT2)).1.min = 0 ∧ (parL (toL kT2)).1.nick = [] ∧ (parL (toL kT2)).1.text = [] ∧ (parL (toL kT2)).2 = (5, 12) := by decide +kernel
theorem ex_par3 : (parL (toL kT3)).1.min = 0 ∧ (parL (toL kT3)).1.nick = [] ∧ (parL (toL kT3)).1.text = [] ∧ (parL (toL kT3)).2 = (10, 4) := by decide +kernel
theorem ex_base : baseN (toL ⟨#[74, 46, 32, 82, 46, 32, 68, 111, 101]⟩) = [74, 82, 68, 111, 101] := by decide +kernel
theorem dec_two : Go.Lib.decDigits 2 = [50] := by rw [Go.Lib.decDigits]; decide +kernel
theorem ex_nick : nickF (toL ⟨#[74, 46, 32, 82, 46, 32, 68, 111, 101]⟩) [[106, 114, 100, 111, 101]] = ([74, 82, 68, 111, 101, 50], 0) := by
  unfold nickF
  rw [if_neg (by decide)]
  have h1 : takenB (nthN [74, 82, 68, 111, 101] 1) [[106, 114, 100, 111, 101]] = true := by decide +kernel
  have h2 : nthN [74, 82, 68, 111, 101] 2 = [74, 82, 68, 111, 101, 50] := by
    unfold nthN; rw [if_neg (by decide), dec_two]; decide +kernel
  have h3 : takenB [74, 82, 68, 111, 101, 50] [[106, 114, 100, 111, 101]] = false := by decide +kernel
  have h : firstN [74, 82, 68, 111, 101] [[106, 114, 100, 111, 101]] 3000 1 = 2 := by
    rw [show (3000 : Nat) = 2998 + 1 + 1 from rfl, firstN, if_pos h1, firstN, h2, if_neg (by rw [h3]; decide)]
  unfold chooseN
  rw [ex_base, h, h2]
theorem ex_new : newE (toL ⟨#[35, 103, 111]⟩) (toL ⟨#[97, 46, 98]⟩) (toL ⟨#[114, 101, 108, 97, 121]⟩) = 0 := by decide +kernel
theorem ex_hear : hearE 5 (toL kAnn) (toL kHi) 0 = 0 := by
  unfold hearE; rw [if_neg (by rw [ex_line]; decide), if_neg (by decide)]
theorem ex_hearL : hearL [] 5 (toL kAnn) (toL kHi) (toL ⟨#[114, 101, 108, 97, 121]⟩) = [⟨5, toL kAnn, toL kHi⟩] := by
  unfold hearL; rw [if_neg (by decide +kernel)]; rfl

theorem kn_P (w : World) (ht : TabN w) : Calls Tryd.prog 20 #[.agg #[.int .i64 5, .string kAnn, .string kHi]] w fun e w' => e = .returned (.tuple #[.string kT, .int .i64 0]) ∧ Below w.heap.size w w' := by
  have h := gw_printLine 5 kAnn kHi (by decide) (by decide) w ht
  rw [ex_prl] at h
  exact h
theorem kn_par {s : ByteArray} {w : World} {m : Nat} {n t : Bs} {at_ : Nat} {er : Int} (h : (parL (toL s)).1.min = m ∧ (parL (toL s)).1.nick = n ∧ (parL (toL s)).1.text = t ∧ (parL (toL s)).2 = (at_, er)) (hsh : w.ShapedOpen Tryd.prog) (hs : s.size ≤ 900000) :
    Calls Tryd.prog 21 #[.string s] w fun e w' => e = .returned (.tuple #[.agg #[.int .i64 (m : Int), .string (ofL n), .string (ofL t)], .int .i64 (at_ : Int), .int .i64 er]) ∧ Below w.heap.size w w' := by
  refine (gw_parseLine s w hsh hs).mono ?_
  rintro e w' ⟨he, hb⟩
  obtain ⟨h1, h2, h3, h4⟩ := h
  refine ⟨?_, hb⟩
  rw [he, ← h1, ← h2, ← h3, h4]; rfl
theorem kn_N (A : Option Addr) (w : World) (ht : TabN w) (hr : Row w A [.string ⟨#[106, 114, 100, 111, 101]⟩]) : Calls Tryd.prog 7 #[.string ⟨#[74, 46, 32, 82, 46, 32, 68, 111, 101]⟩, .slice A 1 1] w fun e w' => e = .returned (.tuple #[.string ⟨#[74, 82, 68, 111, 101, 50]⟩, .int .i64 0]) ∧ Below w.heap.size w w' := by
  have h := gw_nick ⟨#[74, 46, 32, 82, 46, 32, 68, 111, 101]⟩ A [[106, 114, 100, 111, 101]] 1 w ht hr (by decide) (by decide) (by intro x hx; simp at hx; subst hx; decide)
  rw [ex_nick] at h
  exact h
theorem kn_W (w : World) (hsh : w.ShapedOpen Tryd.prog) : Calls Tryd.prog 13 #[.string ⟨#[35, 103, 111]⟩, .string ⟨#[97, 46, 98]⟩, .string ⟨#[114, 101, 108, 97, 121]⟩] w fun e w' => ∃ b m1 m2, e = .returned (.tuple #[.pointer (some ⟨b, 0, none⟩), .int .i64 0]) ∧ GwAt w' b ⟨#[35, 103, 111]⟩ ⟨#[97, 46, 98]⟩ ⟨#[114, 101, 108, 97, 121]⟩ (.slice none 0 0) [] 0 m1 m2 ∧ w.heap.size ≤ b ∧ Below w.heap.size w w' := by
  refine (gw_new ⟨#[35, 103, 111]⟩ ⟨#[97, 46, 98]⟩ ⟨#[114, 101, 108, 97, 121]⟩ w hsh (by decide) (by decide) (by decide)).mono ?_
  rintro e w' (⟨_, b, m1, m2, h⟩ | ⟨h, _⟩)
  · exact ⟨b, m1, m2, h⟩
  · exact absurd ex_new h
/-- A gateway that has heard one line. -/
def Gw1 (b : Nat) (w : World) : Prop := ∃ R G N v last m1 m2, GwAt w b R G N v [⟨5, toL kAnn, toL kHi⟩] last m1 m2
theorem kn_H (b m1 m2 : Nat) (w : World) (h : GwAt w b ⟨#[35, 103, 111]⟩ ⟨#[97, 46, 98]⟩ ⟨#[114, 101, 108, 97, 121]⟩ (.slice none 0 0) [] 0 m1 m2) : Calls Tryd.prog 22 #[.pointer (some ⟨b, 0, none⟩), .agg #[.int .i64 5, .string kAnn, .string kHi]] w fun e w' => e = .returned (.int .i64 0) ∧ Gw1 b w' ∧ Below b w w' := by
  refine (gw_hear h 5 kAnn kHi (by decide) (by decide) (by decide) (by decide)).mono ?_
  rintro e w' ⟨h1, ⟨v', h2⟩, h3⟩
  rw [ex_hear] at h1 h2
  rw [if_pos rfl, if_pos rfl, ex_hearL] at h2
  exact ⟨h1, ⟨_, _, _, v', 5, m1, m2, h2⟩, h3⟩
theorem kn_V (b : Nat) (w : World) (h : Gw1 b w) : Calls Tryd.prog 15 #[.pointer (some ⟨b, 0, none⟩)] w fun e w' => ∃ A c, e = .returned (.slice A 1 c) ∧ Below w.heap.size w w' := by
  obtain ⟨R, G, N, v, last, m1, m2, h⟩ := h
  refine (gw_waiting h (by decide)).mono ?_
  rintro e w' ⟨A, c, h1, _, h3⟩
  exact ⟨A, c, h1, h3⟩
end Go.Proofs.YtjmcfagmhniejaaDoor

namespace Go.Proofs.YtjmcfagmhniejaaDoor
set_option linter.unusedSimpArgs false
set_option linter.unusedVariables false
open Go.RowKit

abbrev lnC : Array Value := #[.int .i64 5, .string kAnn, .string kHi]
theorem kn_1 {w : World} (hsh : w.ShapedOpen Tryd.prog) : Calls Tryd.prog 21 #[.string kT] w fun e w' => e = .returned (.tuple #[.agg #[.int .i64 5, .string kAnn, .string kHi], .int .i64 0, .int .i64 0]) ∧ Below w.heap.size w w' := by
  have h := kn_par (w := w) ex_par1 hsh (by decide)
  rw [show ofL (toL kAnn) = kAnn from ofL_toL _, show ofL (toL kHi) = kHi from ofL_toL _] at h
  exact h
theorem kn_2 {w : World} (hsh : w.ShapedOpen Tryd.prog) : Calls Tryd.prog 21 #[.string kT2] w fun e w' => e = .returned (.tuple #[.agg #[.int .i64 0, .string ⟨#[]⟩, .string ⟨#[]⟩], .int .i64 5, .int .i64 12]) ∧ Below w.heap.size w w' := kn_par (w := w) ex_par2 hsh (by decide)
theorem kn_3 {w : World} (hsh : w.ShapedOpen Tryd.prog) : Calls Tryd.prog 21 #[.string kT3] w fun e w' => e = .returned (.tuple #[.agg #[.int .i64 0, .string ⟨#[]⟩, .string ⟨#[]⟩], .int .i64 10, .int .i64 4]) ∧ Below w.heap.size w w' := kn_par (w := w) ex_par3 hsh (by decide)
/-- The boxes of the examples, and what has not changed. -/
structure KnW (w : World) (r1 r2 : Nat) (wx : World) : Prop where
  b1 : wx.heap[r1]? = some (.cells lnC 44 (0, 0))
  b2 : wx.heap[r2]? = some (.cells lnC 44 (0, 0))
  bel : Below w.heap.size w wx
theorem KnW.later {w : World} {r1 r2 : Nat} {wx wy : World} (h : KnW w r1 r2 wx) (hb : Below wx.heap.size wx wy) : KnW w r1 r2 wy :=
  ⟨(hb.block _ (heap_lt h.b1)).trans h.b1, (hb.block _ (heap_lt h.b2)).trans h.b2, h.bel.trans (hb.mono h.bel.size)⟩
theorem KnW.cells {w : World} {r1 r2 : Nat} {wx : World} (h : KnW w r1 r2 wx) : (wx.cell? ⟨r1, 0, none⟩ = some (.int .i64 5) ∧ wx.cell? ⟨r1, 1, none⟩ = some (.string kAnn) ∧ wx.cell? ⟨r1, 2, none⟩ = some (.string kHi)) ∧ (wx.cell? ⟨r2, 0, none⟩ = some (.int .i64 5) ∧ wx.cell? ⟨r2, 1, none⟩ = some (.string kAnn) ∧ wx.cell? ⟨r2, 2, none⟩ = some (.string kHi)) :=
  ⟨⟨by rw [Lib.cell_of_heap h.b1]; rfl, by rw [Lib.cell_of_heap h.b1]; rfl, by rw [Lib.cell_of_heap h.b1]; rfl⟩, by rw [Lib.cell_of_heap h.b2]; rfl, by rw [Lib.cell_of_heap h.b2]; rfl, by rw [Lib.cell_of_heap h.b2]; rfl⟩
theorem KnW.start {w w1 w2 : World} {r1 : Nat} (h1 : w1.heap[r1]? = some (.cells lnC 44 (0, 0))) (hb1 : Below w.heap.size w w1) (hb2 : Below w1.heap.size w1 w2) : KnW w r1 w2.heap.size (w2.alloc (.cells lnC 44)) :=
  ⟨((hb2.trans ((alloc_bel w2 _).mono hb2.size)).block _ (heap_lt h1)).trans h1, heap_alloc_new _ _, hb1.trans ((hb2.trans ((alloc_bel w2 _).mono hb2.size)).mono hb1.size)⟩
set_option maxHeartbeats 8000000 in
set_option maxRecDepth 100000 in
theorem gw_known (w : World) (hsh : w.ShapedOpen Tryd.prog) (ht : TabN w) : Calls Tryd.prog 8 #[] w fun e w' => e = .returned (.bool true) ∧ Below w.heap.size w w' := by
  have HSH := Lib.hid (fun wx (hb : Below w.heap.size w wx) => shaped_below hsh hb); have HT := Lib.hid (fun wx (hb : Below w.heap.size w wx) => ht.below hb); clear hsh ht
  go_enter Tryd.func8, Tryd.ntmps8
  go_upto_region 2 with fail
  have HB1 := Lib.hid (show Below w.heap.size w (w.alloc (.cells lnC 44)) from alloc_bel _ _)
  have HL1 := Lib.hid (show (w.alloc (.cells lnC 44)).heap[w.heap.size]? = some (.cells lnC 44 (0, 0)) from heap_alloc_new _ _)
  generalize w.alloc (.cells lnC 44) = w1 at *
  have l0 : w1.cell? ⟨w.heap.size, 0, none⟩ = some (.int .i64 5) := by rw [Lib.cell_of_heap HL1.out]; rfl
  have l1 : w1.cell? ⟨w.heap.size, 1, none⟩ = some (.string kAnn) := by rw [Lib.cell_of_heap HL1.out]; rfl
  have l2 : w1.cell? ⟨w.heap.size, 2, none⟩ = some (.string kHi) := by rw [Lib.cell_of_heap HL1.out]; rfl
  go_upto_region 3 with ((go_at_call 20; (with_reducible refine (kn_P _ (HT.out _ HB1.out)).mono ?_); rintro e w2 ⟨rfl, hb2⟩))
  go_upto_region 4 with ((go_at_call 21; (with_reducible refine (kn_1 (HSH.out _ (HB1.out.trans (hb2.mono HB1.out.size)))).mono ?_); rintro e w3 ⟨rfl, hb3⟩))
  have HK := Lib.hid (show KnW w w.heap.size w3.heap.size (w3.alloc (.cells lnC 44)) from KnW.start HL1.out HB1.out (hb2.trans (hb3.mono hb2.size)))
  clear l0 l1 l2 hb2 hb3 HL1 HB1
  generalize w3.heap.size = r2 at *
  generalize w3.alloc (.cells lnC 44) = w4 at *
  go_upto_region 5 with ((go_at_call 21; (with_reducible refine (kn_2 (HSH.out _ HK.out.bel)).mono ?_); rintro e w5 ⟨rfl, hb5⟩))
  have HK5 := Lib.hid (HK.out.later (hb5.trans ((alloc_bel w5 (.cells #[.int .i64 0, .string ⟨#[]⟩, .string ⟨#[]⟩] 44)).mono hb5.size)))
  clear hb5 HK
  generalize w5.heap.size = r3 at *
  generalize w5.alloc (.cells #[.int .i64 0, .string ⟨#[]⟩, .string ⟨#[]⟩] 44) = w6 at *
  go_upto_region 6 with ((go_at_call 21; (with_reducible refine (kn_3 (HSH.out _ HK5.out.bel)).mono ?_); rintro e w7 ⟨rfl, hb7⟩))
  have HK7 := Lib.hid (HK5.out.later (hb7.trans ((alloc_bel w7 (.cells #[.int .i64 0, .string ⟨#[]⟩, .string ⟨#[]⟩] 44)).mono hb7.size)))
  clear hb7 HK5
  generalize w7.heap.size = r4 at *
  generalize w7.alloc (.cells #[.int .i64 0, .string ⟨#[]⟩, .string ⟨#[]⟩] 44) = w8 at *
  have HK8 := Lib.hid (HK7.out.later (alloc_bel w8 (.cells #[.string ⟨#[106, 114, 100, 111, 101]⟩] 9)))
  have HR8 := Lib.hid (show Row (w8.alloc (.cells #[.string ⟨#[106, 114, 100, 111, 101]⟩] 9)) (some ⟨w8.heap.size, 0, none⟩) [.string ⟨#[106, 114, 100, 111, 101]⟩] from Row.mk _ _ _ _ (by simp) fun j v hv => by rw [World.cell?_alloc_mark]; simpa using hv)
  go_upto_region 7 with ((go_at_call 7; (with_reducible refine (kn_N _ _ (HT.out _ HK8.out.bel) HR8.out).mono ?_); rintro e w9 ⟨rfl, hb9⟩))
  have HK9 := Lib.hid (HK8.out.later hb9)
  clear hb9 HK8 HK7
  go_upto_region 8 with ((go_at_call 13; (with_reducible refine (kn_W _ (HSH.out _ HK9.out.bel)).mono ?_); rintro e w10 ⟨b, m1, m2, rfl, hg, hbg, hb10⟩))
  have HK10 := Lib.hid (HK9.out.later hb10)
  have HG10 := Lib.hid hg
  have HZ := Lib.hid hbg
  clear hb10 hg hbg
  obtain ⟨⟨l0, l1, l2⟩, k0, k1, k2⟩ := HK10.out.cells
  go_wp2_with (first | (go_at_call 22; (with_reducible refine (kn_H b m1 m2 _ HG10.out).mono ?_); rintro e w11 ⟨rfl, hg11, hb11⟩) | (go_at_call 15; (with_reducible refine (kn_V b _ hg11).mono ?_); rintro e w12 ⟨A, c, rfl, hb12⟩))
  go_ret
  have hz := HZ.out
  have h1 := HK9.out.bel.size
  have h2 := HK10.out.bel
  exact ⟨rfl, h2.trans ((hb11.mono (by omega)).trans (hb12.mono (by have := hb11.size; have := h2.size; omega)))⟩
end Go.Proofs.YtjmcfagmhniejaaDoor

namespace Go.Proofs.YtjmcfagmhniejaaDoor
set_option linter.unusedSimpArgs false
set_option linter.unusedVariables false
open Go.RowKit
open Go.Lib (decDigits)

theorem taken_step (s : Bs) (l : List Bs) (k : Nat) (h : k < l.length) : takenB s (l.drop k) = (decide (lowerL l[k] = lowerL s) || takenB s (l.drop (k + 1))) := by
  unfold takenB; rw [List.drop_eq_getElem_cons h, List.any_cons]
set_option maxHeartbeats 2000000 in
set_option maxRecDepth 100000 in
theorem lw_taken (s : ByteArray) (A : Option Addr) (l : List Bs) (c : Nat) (w : World) (hr : Row w A (strsL l)) (hl : l.length ≤ 1000000) (hx : ∀ x ∈ l, x.length ≤ maxLen) (hs : s.size ≤ maxLen) :
    Calls Tryd.prog 11 #[.string s, .slice A l.length c] w fun e w' => e = .returned (.bool (takenB (toL s) l)) ∧ Below w.heap.size w w' := by
  have HR := Lib.hid hr; have HX := Lib.hid hx; clear hr hx
  have HS := Lib.hid (fun wx => ref_lower s wx hs)
  generalize hT : takenB (toL s) l = T at *
  go_enter Tryd.func11, Tryd.ntmps11
  go_wp2_with fail
  go_loopw [5] (fun v wr => ∃ k : Nat, k ≤ l.length ∧ v = .int .i64 (k : Int) ∧ T = takenB (toL s) (l.drop k) ∧ Below w.heap.size w wr) (fun v _ => l.length - (intOf v).toNat)
  case atStart => exact ⟨0, by omega, rfl, hT.symm, Below.refl _ _⟩
  case round =>
    obtain ⟨k, hk, rfl, hp, hbl⟩ := hrel
    have HP := Lib.hid hp; have HBL := Lib.hid hbl; clear hp hbl hT
    have k0 : (0 : Int) ≤ (k : Int) := by omega
    by_cases hlt : k < l.length
    · have k1 : (k : Int) < (l.length : Int) := by omega
      obtain ⟨bb, off, rfl, hcell⟩ := (HR.out.below HBL.out).cell (k := k) (by simpa using hlt)
      rw [List.getElem_map] at hcell
      have HM := Lib.hid (HX.out l[k] (List.getElem_mem hlt))
      have HST := Lib.hid (taken_step (toL s) l k hlt)
      generalize l[k] = y at *
      have HLY := Lib.hid (fun wx => ref_lower (ofL y) wx (by rw [ofL_size]; exact HM.out))
      rw [toL_ofL] at HLY
      have HEQ := Lib.hid (show ((ofL (lowerL y)).toList == (ofL (lowerL (toL s))).toList) = decide (lowerL y = lowerL (toL s)) from by rw [beq_toList, toL_ofL, toL_ofL])
      generalize lowerL y = P at *
      generalize lowerL (toL s) = Q at *
      rcases hd : decide (P = Q) with _ | _
      · have q := HEQ.out.trans hd
        have HN := Lib.hid (show T = takenB (toL s) (l.drop (k + 1)) from by rw [HP.out, HST.out, hd]; rfl)
        clear hd
        go_wp2_with (first | (go_at_call 25; (with_reducible refine (HLY.out _).mono ?_); rintro e w4 ⟨rfl, hb4⟩) | (go_at_call 25; (with_reducible refine (HS.out _).mono ?_); rintro e w5 ⟨rfl, hb5⟩))
        go_roundw
        case rel => exact ⟨k + 1, by omega, by go_num, HN.out, HBL.out.trans ((hb4.trans (hb5.mono hb4.size)).mono HBL.out.size)⟩
        case measure => simp [intOf] <;> omega
      · have q := HEQ.out.trans hd
        have HN := Lib.hid (show T = true from by rw [HP.out, HST.out, hd]; rfl)
        clear hd
        go_wp2_with (first | (go_at_call 25; (with_reducible refine (HLY.out _).mono ?_); rintro e w4 ⟨rfl, hb4⟩) | (go_at_call 25; (with_reducible refine (HS.out _).mono ?_); rintro e w5 ⟨rfl, hb5⟩))
        go_ret
        exact ⟨ret_bool HN.out.symm, HBL.out.trans ((hb4.trans (hb5.mono hb4.size)).mono HBL.out.size)⟩
    · have k1 : (l.length : Int) ≤ (k : Int) := by omega
      have HN := Lib.hid (show T = false from by rw [HP.out, List.drop_eq_nil_of_le (by omega)]; rfl)
      go_wp2_with fail
      go_ret
      exact ⟨ret_bool HN.out.symm, HBL.out⟩
theorem one_cutN (s : ByteArray) (k : Nat) (h : k < s.size) : s.extract k (k + 1) = ofL [s[k]'h] := by
  apply toL_inj
  rw [toL_ofL, extract_toL, cutL]
  have hk : k < (toL s).length := by rw [toL_length]; exact h
  rw [List.drop_eq_getElem_cons hk, toL_getElem s k h]
  simp
theorem ext_ofL (B : Bs) (m : Nat) : (ofL B).extract 0 m = ofL (B.take m) := by apply toL_inj; rw [ext_take, toL_ofL, toL_ofL]
theorem min_take (B : Bs) (m : Nat) : B.take (min B.length m) = B.take m := by
  rcases Nat.le_total B.length m with h | h
  · rw [Nat.min_eq_left h, List.take_of_length_le (Nat.le_refl _), List.take_of_length_le h]
  · rw [Nat.min_eq_right h]
set_option maxHeartbeats 4000000 in
set_option maxRecDepth 100000 in
theorem lw_choose (name : ByteArray) (A : Option Addr) (l : List Bs) (c : Nat) (w : World) (hr : Row w A (strsL l)) (hl : l.length ≤ 1000) (hx : ∀ x ∈ l, x.length ≤ maxLen) (hn : name.size ≤ 1000) :
    Calls Tryd.prog 9 #[.string name, .slice A l.length c] w fun e w' => e = .returned (.string (ofL (chooseN (toL name) l))) ∧ Below w.heap.size w w' := by
  have HR := Lib.hid hr; have HX := Lib.hid hx; clear hr hx
  have HLN := Lib.hid (toL_length name)
  have HKL := Lib.hid (fun k => keep_le ((toL name).take k))
  have HBN := Lib.hid (show baseN (toL name) = if keepN [] (toL name) = [] then [103, 117, 101, 115, 116] else keepN [] (toL name) from rfl)
  have HBE := Lib.hid (show chooseN (toL name) l = nthN (baseN (toL name)) (firstN (baseN (toL name)) l 3000 1) from rfl)
  have HBL := Lib.hid (base_len (toL name))
  go_enter Tryd.func9, Tryd.ntmps9
  go_wp2_with fail
  go_loop [5, 6] (fun v5 v6 => ∃ k : Nat, k ≤ name.size ∧ v6 = .int .i64 (k : Int) ∧ v5 = .string (ofL (keepN [] ((toL name).take k)))) (fun _ v6 => name.size - (intOf v6).toNat)
  case atStart => exact ⟨0, by omega, rfl, rfl⟩
  case round =>
    obtain ⟨k, hk, rfl, rfl⟩ := hrel
    have k0 : (0 : Int) ≤ (k : Int) := by omega
    by_cases hlt : k < name.size
    · have k1 : (k : Int) < (name.size : Int) := by omega
      have HST := Lib.hid (show keepN [] ((toL name).take (k + 1)) = _ from by rw [take_byteN name k hlt, keep_snoc, inN_num])
      have HOC := Lib.hid (one_cutN name k hlt)
      have hsz : (ofL (keepN [] ((toL name).take k))).size ≤ 1000 := by
        have := HKL.out k; rw [List.length_take] at this; rw [ofL_size]; omega
      have hae : ((ofL (keepN [] ((toL name).take k))).toList = [] ∧ (keepN [] ((toL name).take k)).isEmpty = true) ∨ ((ofL (keepN [] ((toL name).take k))).toList.isEmpty = false ∧ (keepN [] ((toL name).take k)).isEmpty = false) := by
        cases keepN [] ((toL name).take k) with
        | nil => exact .inl ⟨toList_nil (by rw [ofL_size]; rfl), rfl⟩
        | cons a r => exact .inr ⟨toList_cons (by rw [ofL_size]; simp), rfl⟩
      generalize keepN [] ((toL name).take k) = acc at *
      rcases hil : isLetter (num (name[k]'hlt)) with _ | _
      all_goals rcases hin : inNI (num (name[k]'hlt)) with _ | _
      all_goals rcases hae with ⟨ha1, ha2⟩ | ⟨ha1, ha2⟩
      all_goals
        have HL1 := Lib.hid hil; have HI1 := Lib.hid hin
        rw [hil, hin, ha2] at HST
        clear hil hin ha2
        go_wp2_with (first | (go_at_call 23; (with_reducible refine (lw_letter _ _).mono ?_); rintro e w' ⟨rfl, rfl⟩; rw [HL1.out]) | (go_at_call 24; (with_reducible refine (lw_inner _ _).mono ?_); rintro e w' ⟨rfl, rfl⟩; rw [HI1.out]))
        first
          | (go_round
             case rel => exact ⟨k + 1, by omega, by go_num, by rw [HST.out, HOC.out]; simp [ofL_append]⟩
             case measure => simp [intOf] <;> omega)
          | (go_round
             case rel => exact ⟨k + 1, by omega, by go_num, by rw [HST.out]; simp⟩
             case measure => simp [intOf] <;> omega)
    · obtain rfl : k = name.size := by omega
      have k1 : (name.size : Int) ≤ (name.size : Int) := by omega
      have hall : (toL name).take name.size = toL name := List.take_of_length_le (by rw [toL_length]; exact Nat.le_refl _)
      rw [hall]
      clear hall
      go_upto_if 38 with fail
      go_cut [5] (fun s5 wx => s5 = .string (ofL (baseN (toL name))) ∧ wx = w)
      case first =>
        rcases hK : keepN [] (toL name) with _ | ⟨x, r⟩
        · rw [hK] at HBN
          have HQ := Lib.hid (HBN.out.trans (if_pos rfl))
          have q : (ofL ([] : Bs)).toList.isEmpty = true := by rw [toList_nil (by rw [ofL_size]; rfl)]; rfl
          clear hK
          simp only [q]
          go_wp2_with fail
          go_meet
          case rel => rw [HQ.out]; exact ⟨rfl, rfl⟩
        · rw [hK] at HBN
          have HQ := Lib.hid (HBN.out.trans (if_neg (by simp)))
          have q : (ofL (x :: r)).toList.isEmpty = false := toList_cons (by rw [ofL_size]; simp)
          clear hK
          generalize x :: r = acc at *
          simp only [q]
          go_wp2_with fail
          go_meet
          case rel => rw [HQ.out]; exact ⟨rfl, rfl⟩
      case rest =>
        obtain ⟨rfl, hw⟩ := hcut
        obtain rfl : w = wc := hw.symm
        have hbl := HBL.out
        rw [HLN.out] at hbl
        obtain ⟨B, hB⟩ : ∃ B, B = baseN (toL name) := ⟨_, rfl⟩
        rw [← hB] at HBE hbl ⊢
        clear HBN HBL HKL hB
        obtain ⟨F, hF⟩ : ∃ F, F = firstN B l 3000 1 := ⟨_, rfl⟩
        obtain ⟨f1, f2, f3, f4⟩ := choose_free B l (by omega)
        rw [← hF] at f1 f2 f3 f4 HBE
        have HF1 := Lib.hid f1; have HF4 := Lib.hid f4
        clear hF f1 f4
        have HS := Lib.hid (show (ofL B).extract 0 (min B.length 16) = ofL (nthN B 1) from by rw [ext_ofL, min_take]; rfl)
        have HSN := Lib.hid (fun n (h : 2 ≤ n) => show (ofL B).extract 0 (min B.length (16 - (decDigits n).length)) ++ ofL (decDigits n) = ofL (nthN B n) from by
          rw [ext_ofL, min_take, show ofL (B.take (16 - (decDigits n).length)) ++ ofL (decDigits n) = ofL (B.take (16 - (decDigits n).length) ++ decDigits n) from by simp [ofL_append]]; unfold nthN; rw [if_neg (by omega)])
        have hBs : (ofL B).size = B.length := ofL_size B
        rw [← hBs] at HS HSN
        have hbl2 : (ofL B).size ≤ 1005 := by omega
        clear hBs hbl
        generalize ofL B = BA at *
        have hm : min (BA.size : Int) 16 = ((min BA.size 16 : Nat) : Int) := by omega
        have h0 : (0 : Int) ≤ ((min BA.size 16 : Nat) : Int) := by omega
        have h1 : ((min BA.size 16 : Nat) : Int) ≤ (BA.size : Int) := by omega
        generalize min BA.size 16 = m16 at *
        go_upto_region 10 with fail
        rw [HS.out]
        clear hm h0 h1 HS
        go_upto_region 11 with fail
        go_loopw [7, 8, 9] (fun v7 v8 _ wr => ∃ n : Nat, 2 ≤ n ∧ v8 = .int .i64 (n : Int) ∧ v7 = .string (ofL (nthN B (n - 1))) ∧ (∀ k, 1 ≤ k → k < n - 1 → takenB (nthN B k) l = true) ∧ Below w.heap.size w wr) (fun _ v8 _ _ => 3000 - (intOf v8).toNat)
        case atStart => exact ⟨2, by omega, rfl, rfl, fun k h1 h2 => by omega, Below.refl _ _⟩
        case round =>
          obtain ⟨n, hn2, rfl, rfl, hall, hbx⟩ := hrel
          have hnF : n ≤ F + 1 := by
            rcases Nat.lt_or_ge (F + 1) n with h | h
            · have := hall F f2 (by omega); rw [HF1.out] at this; cases this
            · exact h
          have HAL := Lib.hid hall; have HBX := Lib.hid hbx
          clear hall hbx
          have hn0 : (0 : Int) ≤ (n : Int) := by omega
          have hnb : (n : Int) ≤ 2001 := by omega
          have hln : (nthN B (n - 1)).length ≤ 1000000 := Nat.le_trans (nth_len B (by omega)) (by omega)
          have HTK := Lib.hid (fun wx (hx : Below w.heap.size w wx) => lw_taken (ofL (nthN B (n - 1))) A l c wx (HR.out.below hx) (by omega) HX.out (by rw [ofL_size]; unfold maxLen; omega))
          rw [toL_ofL] at HTK
          rcases htk : takenB (nthN B (n - 1)) l with _ | _
          · rw [htk] at HTK
            have hnF2 : F = n - 1 := by
              rcases Nat.lt_or_ge (n - 1) F with h | h
              · have := HF4.out (n - 1) (by omega) h; rw [htk] at this; cases this
              · omega
            rw [hnF2] at HBE
            clear htk hnF2
            generalize hnk : nthN B (n - 1) = nk at *
            clear hnk
            go_wp2_with ((go_at_call 11; (with_reducible refine (HTK.out _ HBX.out).mono ?_); rintro e w4 ⟨rfl, hb4⟩))
            go_ret
            exact ⟨by rw [HBE.out]; rfl, HBX.out.trans (hb4.mono HBX.out.size)⟩
          · rw [htk] at HTK
            have HTT := Lib.hid htk
            clear htk
            have HDG := Lib.hid (fun wx => ref_digits n (by omega) wx)
            have hdl : (ofL (decDigits n)).size ≤ 5 := by rw [ofL_size]; exact dec_len_lt 4 n (by omega)
            have HNX := Lib.hid (HSN.out n hn2)
            rw [show (decDigits n).length = (ofL (decDigits n)).size from (ofL_size _).symm] at HNX
            generalize ofL (nthN B (n - 1)) = nk at *
            generalize ofL (decDigits n) = D at *
            have x1 : IntKind.i64.wrap (16 - (D.size : Int)) = 16 - (D.size : Int) := IntWalk.i64_in _ (by omega)
            have hm : min (BA.size : Int) (16 - (D.size : Int)) = ((min BA.size (16 - D.size) : Nat) : Int) := by omega
            have h0 : (0 : Int) ≤ ((min BA.size (16 - D.size) : Nat) : Int) := by omega
            have h1 : ((min BA.size (16 - D.size) : Nat) : Int) ≤ (BA.size : Int) := by omega
            generalize min BA.size (16 - D.size) = mm at *
            go_wp2_with (first | (go_at_call 11; (with_reducible refine (HTK.out _ HBX.out).mono ?_); rintro e w4 ⟨rfl, hb4⟩) | (go_at_call 12; (with_reducible refine (HDG.out _).mono ?_); rintro e w5 ⟨rfl, hb5⟩))
            go_roundw
            case rel =>
              refine ⟨n + 1, by omega, by go_num, by rw [Nat.add_sub_cancel]; exact congrArg Value.string HNX.out, fun k h1 h2 => ?_, HBX.out.trans ((hb4.trans (hb5.mono hb4.size)).mono HBX.out.size)⟩
              rcases Nat.lt_or_ge k (n - 1) with h | h
              · exact HAL.out k h1 h
              · rw [show k = n - 1 from by omega]; exact HTT.out
            case measure => simp [intOf] <;> omega
end Go.Proofs.YtjmcfagmhniejaaDoor
