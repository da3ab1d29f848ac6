/- Lemmas and walks, part 28. -/
import Derived.Test.YtannhfnpigiggaaGreatDoorPs27
import Derived.Test.YtannhfnpigiggaaGreatDoorPs4
import Derived.Deep.RegionHeld3
import Derived.Deep.QuietTactic
import Derived.BigQuiet
namespace Go.Proofs.YtannhfnpigiggaaGreatDoor
set_option linter.unusedSimpArgs false
set_option linter.unusedVariables false
open Go.RowKit
attribute [local go_sem ↓] wp_load_in

theorem index_inL : ∀ (s p : Bs), decide (0 ≤ Lib.index s p) = inL s p
  | [], p => by
    unfold Lib.index inL
    cases p <;> simp
  | c :: r, p => by
    have ih := index_inL r p
    unfold Lib.index inL
    cases h : p.isPrefixOf (c :: r)
    · rw [Bool.false_or, ← ih]
      simp only [h, Bool.false_eq_true, if_false]
      by_cases h1 : Lib.index r p = -1
      · simp [h1]
      · have : decide (0 ≤ Lib.index r p + 1) = decide (0 ≤ Lib.index r p) := by
          rw [Bool.eq_iff_iff]
          simp only [decide_eq_true_eq]
          constructor
          · intro h2; omega
          · intro h2; omega
        simp [h1, this]
    · simp [h]
set_option maxHeartbeats 1000000 in
set_option maxRecDepth 100000 in
theorem asc_indexFold (a b : ByteArray) (w : World) (ha : a.size ≤ 1000000) (hb : b.size ≤ 1000000) (hsh : w.ShapedOpen Tryz.prog) :
    Calls Tryz.prog 213 #[.string a, .string b] w fun e w' => (∃ i : Int, e = .returned (.int .i64 i) ∧ decide (0 ≤ i) = inL (lowerL (toL a)) (lowerL (toL b))) ∧ Below w.heap.size w w' := by
  have HA := Lib.hid (asc_lower a w (by unfold maxLen; omega))
  have HB := Lib.hid (fun wx => asc_lower b wx (by unfold maxLen; omega))
  have hla : (ofL (lowerL (toL a))).size < 4294967281 := by rw [ofL_size, lowerL_length, toL_length]; omega
  have HI := Lib.hid (fun wx (hx : Below w.heap.size w wx) => Tryz.strings_Index_shaped (ofL (lowerL (toL a))) (ofL (lowerL (toL b))) wx (shaped_below hsh hx) hla)
  have HV := Lib.hid (index_inL (lowerL (toL a)) (lowerL (toL b)))
  clear hsh hla
  obtain ⟨LA, hLA⟩ : ∃ LA, ofL (lowerL (toL a)) = LA := ⟨_, rfl⟩
  obtain ⟨LB, hLB⟩ : ∃ LB, ofL (lowerL (toL b)) = LB := ⟨_, rfl⟩
  have HLA := Lib.hid (show LA.data.toList = lowerL (toL a) from by rw [← hLA]; rfl)
  have HLB := Lib.hid (show LB.data.toList = lowerL (toL b) from by rw [← hLB]; rfl)
  rw [hLA] at HA HI
  rw [hLB] at HI
  have HB2 := Lib.hid (show ∀ wx, Calls Tryz.prog 214 #[.string b] wx fun e w' => e = .returned (.string LB) ∧ Below wx.heap.size wx w' from hLB ▸ HB.out)
  clear hLA hLB HB
  go_enter Tryz.func213, Tryz.ntmps213
  go_wp2_with (first
    | (go_at_call 76; (with_reducible refine (HI.out _ HBB.out).mono ?_); rintro e w3 ⟨rfl, rfl⟩)
    | ((with_reducible refine HA.out.mono ?_); rintro e w1 ⟨rfl, hb1⟩; have HB1 := Lib.hid hb1; clear hb1)
    | ((with_reducible refine (HB2.out _).mono ?_); rintro e w2 ⟨rfl, hb2⟩; have HBB := Lib.hid (HB1.out.trans (hb2.mono HB1.out.size)); clear hb2))
  go_ret
  exact ⟨⟨_, rfl, by rw [HLA.out, HLB.out]; exact HV.out⟩, HBB.out⟩
end Go.Proofs.YtannhfnpigiggaaGreatDoor

namespace Go.Proofs.YtannhfnpigiggaaGreatDoor
set_option linter.unusedSimpArgs false
set_option linter.unusedVariables false
open Go.RowKit
attribute [local go_sem ↓] wp_load_in

abbrev TxP (W : World) (b : Nat) (TS : ByteArray) (wx : World) : Prop := wx.cell? ⟨b, 3, none⟩ = some (.string TS) ∧ Below W.heap.size W wx
theorem TxP.later {W wx wy : World} {b : Nat} {TS : ByteArray} (h : TxP W b TS wx) (hb : Below wx.heap.size wx wy) (hz : b < W.heap.size) : TxP W b TS wy :=
  ⟨(hb.cell (p := ⟨b, 3, none⟩) (Nat.lt_of_lt_of_le hz h.2.size)).trans h.1, h.2.trans (hb.mono h.2.size)⟩
set_option maxHeartbeats 8000000 in
set_option maxRecDepth 100000 in
theorem h_txt {x : InS} {IC : Array Value} {A : Option Addr} {gc : Nat} (h : InV x IC A gc) {f m t : Bs} (hf : f ∈ txtFs) (hm : m ∈ modesL) (ht : t.length ≤ 1000000) (w : World) (hsh : w.ShapedOpen Tryz.prog) :
    Calls Tryz.prog 211 #[.agg #[.string (ofL f), .func (.func (txtFn f)) #[] #[], .string (ofL m), .string (ofL t)], .agg IC] w (HoP (txtS m (txtOf f x) t) w) := by
  have HN := Lib.hid (fun wx => in_txt h hf wx)
  have hen := txt_enters hf
  have hxs : (txtOf f x).length ≤ 1000000 := by
    have h0 := h.s0; have h1 := h.s1; have h2 := h.s2
    unfold txtOf
    split
    · exact h0
    · split
      · exact h1
      · exact h2
  have HSH := Lib.hid hsh
  have HSZ := Lib.hid h.size
  clear hsh
  obtain ⟨FS, hFS⟩ : ∃ FS, ofL f = FS := ⟨_, rfl⟩
  obtain ⟨MS, hMS⟩ : ∃ MS, ofL m = MS := ⟨_, rfl⟩
  obtain ⟨TS, hTS⟩ : ∃ TS, ofL t = TS := ⟨_, rfl⟩
  obtain ⟨XS, hXS⟩ : ∃ XS, ofL (txtOf f x) = XS := ⟨_, rfl⟩
  have E1 := Lib.hid (act_eq m wIs)
  have E2 := Lib.hid (act_eq m wHas)
  rw [hMS] at E1 E2
  have HT := Lib.hid (show toL TS = t from by rw [← hTS, toL_ofL])
  have HX := Lib.hid (show toL XS = txtOf f x from by rw [← hXS, toL_ofL])
  have hts : TS.size ≤ 1000000 := by rw [← hTS, ofL_size]; exact ht
  have hxz : XS.size ≤ 1000000 := by rw [← hXS, ofL_size]; exact hxs
  rw [hXS] at HN
  rw [hFS, hMS, hTS, ← HX.out, ← HT.out]
  clear hFS hMS hTS hXS hf h hxs ht HX HT
  generalize txtFn f = F at *
  have HEF := Lib.hid (fun wx => asc_equalFold XS TS wx (by unfold maxLen; omega) (by unfold maxLen; omega))
  have HIF := Lib.hid (fun wx (hx : Below w.heap.size w wx) => asc_indexFold XS TS wx hxz hts (shaped_below HSH.out hx))
  clear HSH
  go_enter Tryz.func211, Tryz.ntmps211
  go_upto_region 1 with fail
  obtain ⟨q0, q1, q2, q3⟩ := two_new w (.cells #[.string FS, .func (.func F) #[] #[], .string MS, .string TS] 165) (.cells IC 26)
  have HB := Lib.hid q2
  have c1 : ((w.alloc (.cells #[.string FS, .func (.func F) #[] #[], .string MS, .string TS] 165)).alloc (.cells IC 26)).cell? ⟨w.heap.size, 1, none⟩ = some (.func (.func F) #[] #[]) := by rw [Lib.cell_of_heap q0]; rfl
  have c2 : ((w.alloc (.cells #[.string FS, .func (.func F) #[] #[], .string MS, .string TS] 165)).alloc (.cells IC 26)).cell? ⟨w.heap.size, 2, none⟩ = some (.string MS) := by rw [Lib.cell_of_heap q0]; rfl
  have c3 : ((w.alloc (.cells #[.string FS, .func (.func F) #[] #[], .string MS, .string TS] 165)).alloc (.cells IC 26)).cell? ⟨w.heap.size, 3, none⟩ = some (.string TS) := by rw [Lib.cell_of_heap q0]; rfl
  obtain ⟨o1, e1⟩ := in_of (in_load q1 HSZ.out)
  have hz : w.heap.size < ((w.alloc (.cells #[.string FS, .func (.func F) #[] #[], .string MS, .string TS] 165)).alloc (.cells IC 26)).heap.size := by omega
  clear q0 q1 q2 q3
  generalize (w.alloc (.cells #[.string FS, .func (.func F) #[] #[], .string MS, .string TS] 165)).alloc (.cells IC 26) = W at *
  simp only [modesL, List.mem_cons, List.not_mem_nil, or_false] at hm
  rcases hm with rfl | rfl | rfl
  · have f1 : (MS.toList == [105, 115]) = true := E1.out.trans (by decide)
    have HV := Lib.hid (show txtS wIs (toL XS) (toL TS) = foldEq (toL XS) (toL TS) from rfl)
    generalize foldEq (toL XS) (toL TS) = q at *
    go_wp2_with (first
      | (go_at_call 212; (with_reducible refine (HEF.out _).mono ?_); rintro e w3 ⟨rfl, hb3⟩; have HB3 := Lib.hid (HB2.out.trans (hb3.mono HB2.out.size)); clear hb3)
      | ((with_reducible refine (HN.out _).mono ?_); rintro e w2 ⟨rfl, hb2⟩; have HB2 := Lib.hid (HB.out.trans (hb2.mono HB.out.size)); have d2 := (hb2.cell (p := ⟨w.heap.size, 2, none⟩) hz).trans c2; have d3 := (hb2.cell (p := ⟨w.heap.size, 3, none⟩) hz).trans c3; clear hb2))
    go_ret
    exact ⟨ret_bool HV.out.symm, HB3.out⟩
  · have f1 : (MS.toList == [105, 115]) = false := E1.out.trans (by decide)
    have f2 : (MS.toList == [104, 97, 115]) = true := E2.out.trans (by decide)
    have HV := Lib.hid (show txtS wHas (toL XS) (toL TS) = inL (lowerL (toL XS)) (lowerL (toL TS)) from rfl)
    generalize inL (lowerL (toL XS)) (lowerL (toL TS)) = q at *
    go_wp2_with (first
      | (go_at_call 213; (with_reducible refine (HIF.out _ HB2.out).mono ?_); rintro e w3 ⟨⟨i, rfl, hi⟩, hb3⟩; have HI := Lib.hid hi; have HB3 := Lib.hid (HB2.out.trans (hb3.mono HB2.out.size)); clear hb3 hi)
      | ((with_reducible refine (HN.out _).mono ?_); rintro e w2 ⟨rfl, hb2⟩; have HB2 := Lib.hid (HB.out.trans (hb2.mono HB.out.size)); have d2 := (hb2.cell (p := ⟨w.heap.size, 2, none⟩) hz).trans c2; have d3 := (hb2.cell (p := ⟨w.heap.size, 3, none⟩) hz).trans c3; clear hb2))
    go_ret
    exact ⟨ret_bool (HI.out.trans HV.out.symm), HB3.out⟩
  · have f1 : (MS.toList == [105, 115]) = false := E1.out.trans (by decide)
    have f2 : (MS.toList == [104, 97, 115]) = false := E2.out.trans (by decide)
    have HL := Lib.hid (show (toL XS).length = XS.size ∧ (toL TS).length = TS.size from ⟨toL_length _, toL_length _⟩)
    have HV := Lib.hid (show txtS wBegins (toL XS) (toL TS) = (decide ((toL TS).length ≤ (toL XS).length) && foldEq ((toL XS).take (toL TS).length) (toL TS)) from rfl)
    rw [HL.out.1, HL.out.2] at HV
    by_cases hle : TS.size ≤ XS.size
    · rw [decide_eq_true hle, Bool.true_and] at HV
      have hle' : decide (TS.size ≤ XS.size) = true := decide_eq_true hle
      have HE2 := Lib.hid (fun wx => asc_equalFold (XS.extract 0 TS.size) TS wx (by rw [ByteArray.size_extract]; unfold maxLen; omega) (by unfold maxLen; omega))
      rw [show toL (XS.extract 0 TS.size) = (toL XS).take TS.size from by rw [extract_toL]; unfold cutL; simp] at HE2
      generalize foldEq ((toL XS).take TS.size) (toL TS) = q at *
      go_upto_region 7 with (((with_reducible refine (HN.out _).mono ?_); rintro e w2 ⟨rfl, hb2⟩; have HB2 := Lib.hid (HB.out.trans (hb2.mono HB.out.size)); have d2 := (hb2.cell (p := ⟨w.heap.size, 2, none⟩) hz).trans c2; have d3 := (hb2.cell (p := ⟨w.heap.size, 3, none⟩) hz).trans c3; have hz2 := Nat.lt_of_lt_of_le hz hb2.size; clear hb2))
      have HK := Lib.hid (show TxP w2 w.heap.size TS w2.drew from ⟨d3, (Below.refl _ _).drew⟩)
      go_region_held3 (fun w' => w'.cell? ⟨w.heap.size, 3, none⟩ = some (.string TS) ∧ Below w2.heap.size w2 w')
        (first | exact HK.out | exact TxP.later (by assumption) hb5 hz2)
        ((go_at_call 212; (with_reducible refine (HE2.out _).mono ?_); rintro e w5 ⟨rfl, hb5⟩))
      rename_i hS
      go_wp2_with fail
      go_ret
      exact ⟨ret_bool HV.out.symm, HB2.out.trans (hS.2.mono HB2.out.size)⟩
    · rw [decide_eq_false hle, Bool.false_and] at HV
      have hle' : decide (TS.size ≤ XS.size) = false := decide_eq_false hle
      go_upto_region 7 with (((with_reducible refine (HN.out _).mono ?_); rintro e w2 ⟨rfl, hb2⟩; have HB2 := Lib.hid (HB.out.trans (hb2.mono HB.out.size)); have d2 := (hb2.cell (p := ⟨w.heap.size, 2, none⟩) hz).trans c2; have d3 := (hb2.cell (p := ⟨w.heap.size, 3, none⟩) hz).trans c3; have hz2 := Nat.lt_of_lt_of_le hz hb2.size; clear hb2))
      go_quiet (fail)
      go_wp2_with fail
      go_ret
      exact ⟨ret_bool HV.out.symm, HB2.out.trans ((below_drewN (Below.refl w2.heap.size w2) nq).mono HB2.out.size)⟩
end Go.Proofs.YtannhfnpigiggaaGreatDoor

namespace Go.Proofs.YtannhfnpigiggaaGreatDoor
set_option linter.unusedSimpArgs false
set_option linter.unusedVariables false
open Go.Lib (decDigits)

theorem escL_length (s : Bs) : (escL s).length ≤ 2 * s.length := by
  induction s with
  | nil => simp [escL]
  | cons c r ih =>
    have e : escL (c :: r) = (if c = 34 ∨ c = 92 then [92, c] else [c]) ++ escL r := by simp [escL]
    rw [e, List.length_append, List.length_cons]
    split <;> simp <;> omega
theorem quoteL_length (s : Bs) : (quoteL s).length ≤ 2 * s.length + 2 := by
  have := escL_length s
  simp only [quoteL, List.length_cons, List.length_append, List.length_nil]; omega
theorem cmpOp_len {o : Bs} (h : o ∈ cmpOps) : o.length ≤ 2 := by
  have : ∀ x ∈ cmpOps, x.length ≤ 2 := by decide
  exact this o h
theorem numFs_len {o : Bs} (h : o ∈ numFs) : o.length ≤ 7 := by
  have : ∀ x ∈ numFs, x.length ≤ 7 := by decide
  exact this o h
theorem txtFs_len {o : Bs} (h : o ∈ txtFs) : o.length ≤ 7 := by
  have : ∀ x ∈ txtFs, x.length ≤ 7 := by decide
  exact this o h
theorem modes_len {o : Bs} (h : o ∈ modesL) : o.length ≤ 6 := by
  have : ∀ x ∈ modesL, x.length ≤ 6 := by decide
  exact this o h
end Go.Proofs.YtannhfnpigiggaaGreatDoor

namespace Go.Proofs.YtannhfnpigiggaaGreatDoor
set_option linter.unusedSimpArgs false
set_option linter.unusedVariables false

end Go.Proofs.YtannhfnpigiggaaGreatDoor
