/- The walk over the reference's Match. -/
import Derived.Test.YtmiieifcefgedaaDoorWmQ7
namespace Go.Proofs.YtmiieifcefgedaaDoor
set_option linter.unusedSimpArgs false
set_option linter.unusedVariables false
open Go.RowKit

def CharsTo (L : Bs) (k : Nat) : Prop := Chars (L.take k)
theorem charsTo_zero (L : Bs) : CharsTo L 0 := by simp [CharsTo, Chars]
theorem charsTo_succ {s : ByteArray} {k : Nat} (hk : k < s.size) (h : CharsTo (toL s) k) (hc : isChar (s[k]'hk) = true) : CharsTo (toL s) (k + 1) := by
  unfold CharsTo at *
  have hkl : k < (toL s).length := by rw [toL_length]; exact hk
  rw [List.take_succ_eq_append_getElem hkl, toL_getElem s k hk]
  intro c hm
  rcases List.mem_append.1 hm with hm | hm
  · exact h c hm
  · simp at hm; subst hm; exact hc
theorem charsTo_end {s : ByteArray} (h : CharsTo (toL s) s.size) : Chars (toL s) := by
  unfold CharsTo at h; rwa [List.take_of_length_le (by rw [toL_length]; omega)] at h
theorem noChar {es : List Em} (hok : ∀ e ∈ es, e.Ok) {s : ByteArray} {k : Nat} (hk : k < s.size) (hc : isChar (s[k]'hk) = false) : matchF es (toL s) = false := by
  rw [Bool.eq_false_iff]
  intro h
  have := matchF_chars es hok _ h (s[k]'hk) (by rw [← toL_getElem s k hk]; exact List.getElem_mem _)
  rw [hc] at this; cases this
/-- Row k of the table in memory. -/
structure DpAt (W : World) (es : List Em) (L : Bs) (k m : Nat) (wr : World) : Prop where
  bools : BoolsAt wr m (dpF es L k)
  bel : Below W.heap.size W wr
/-- Row k + 1 as far as it is written. -/
structure NxAt (m4 : Nat) (wo : World) (es : List Em) (L : Bs) (k i : Nat) (wx : World) : Prop where
  bools : BoolsAt wx m4 (dpG es L k i)
  bel : Below m4 wo wx
theorem NxAt.put {m4 : Nat} {wo wx : World} {es : List Em} {L : Bs} {k i : Nat} (h : NxAt m4 wo es L k i wx) (hi : i ≤ L.length) (b : Bool) (hb : matchF (es.take k) (L.take i) = b) : NxAt m4 wo es L k (i + 1) (wx.setCell ⟨m4, i, none⟩ (.bool b)) :=
  ⟨by have := h.bools.set i b; rwa [dpG_set es L k i b hi hb] at this, h.bel.setCell (p := ⟨m4, i, none⟩) (Nat.le_refl _) _⟩
theorem NxAt.skip {m4 : Nat} {wo wx : World} {es : List Em} {L : Bs} {k i : Nat} (h : NxAt m4 wo es L k i wx) (hi : i ≤ L.length) (hb : matchF (es.take k) (L.take i) = false) : NxAt m4 wo es L k (i + 1) wx :=
  ⟨by have := h.bools; rwa [dpG_skip es L k i hi hb] at this, h.bel⟩
theorem NxAt.drew {m4 : Nat} {wo wx : World} {es : List Em} {L : Bs} {k i : Nat} (h : NxAt m4 wo es L k i wx) : NxAt m4 wo es L k i wx.drew :=
  ⟨h.bools, h.bel.drew⟩

set_option maxHeartbeats 8000000 in
set_option maxRecDepth 100000 in
theorem rf_match (v : Value) (txt : ByteArray) (es : List Em) (s : ByteArray) (w : World) (hp : RPat w txt es v) (he : es.length ≤ 1000) (hok : ∀ e ∈ es, e.Ok) (hs : s.size ≤ 100000) :
    Calls Tryd.prog 18 #[v, .string s] w fun e w' => e = .returned (.bool (matchF es (toL s))) ∧ Below w.heap.size w w' := by
  obtain ⟨A, c, rfl, hrow, hty⟩ := hp
  have HE := Lib.hid (box_es (txt := txt) (c := c) hrow)
  have HB := Lib.hid ((Below.refl w.heap.size w).alloc (Nat.le_refl _) (.cells #[.string txt, .slice A es.length c] 29))
  have HOK := Lib.hid hok
  have HL := Lib.hid (toL_length s)
  have HNC := Lib.hid (fun k hk hc => noChar hok (s := s) (k := k) hk hc)
  clear hrow hty hok
  go_enter Tryd.func18, Tryd.ntmps18
  go_upto_region 1 with fail
  generalize w.alloc (.cells #[.string txt, .slice A es.length c] 29) = W at *
  go_wp2_with fail
  go_loop [5, 10] (fun v5 _ => ∃ k : Nat, k ≤ s.size ∧ v5 = .int .i64 (k : Int) ∧ CharsTo (toL s) k) (fun v5 _ => s.size - (intOf v5).toNat)
  case atStart => exact ⟨0, by omega, rfl, charsTo_zero _⟩
  case round =>
    obtain ⟨k, hk, rfl, hch⟩ := hrel
    have HC := Lib.hid hch; clear hch
    by_cases hlt : k < s.size
    · have k0 : (0 : Int) ≤ (k : Int) := by omega
      have k1 : (k : Int) < (s.size : Int) := by omega
      rcases hc : isChar (s[k]'hlt) with _ | _
      · have HR := Lib.hid (HNC.out k hlt hc)
        have HCH := Lib.hid hc; clear hc
        go_wp2_with ((go_at_call 35; (with_reducible refine (rf_char _ _).mono ?_); rintro e w' ⟨rfl, rfl⟩; rw [HCH.out]))
        go_ret
        exact ⟨ret_bool (by rw [HR.out]), HB.out⟩
      · have HR := Lib.hid (charsTo_succ hlt HC.out hc)
        have HCH := Lib.hid hc; clear hc
        go_wp2_with ((go_at_call 35; (with_reducible refine (rf_char _ _).mono ?_); rintro e w' ⟨rfl, rfl⟩; rw [HCH.out]))
        go_round
        case rel => exact ⟨k + 1, by omega, by go_num, HR.out⟩
        case measure => simp [intOf] <;> omega
    · obtain rfl : k = s.size := by omega
      have HCS := Lib.hid (charsTo_end HC.out)
      clear HC HNC hlt
      obtain ⟨W1, hmk, hB1, hb1⟩ := run_make_bools W (s.size + 1) ((s.size : Int) + 1) (by omega) (by omega)
      have hc0 := hB1.cell 0 (by simp)
      have hf0 := hB1.free 0
      have hlt0 := heap_lt hB1
      have hq : (0 : Int) < ((s.size + 1 : Nat) : Int) := by omega
      have HD0 := Lib.hid (show DpAt W es (toL s) 0 W.heap.size (W1.setCell ⟨W.heap.size, 0, none⟩ (.bool true)) from ⟨by
        have := hB1.set 0 true
        rwa [show s.size + 1 = (toL s).length + 1 by rw [HL.out], dpF_start] at this, hb1.setCell (p := ⟨W.heap.size, 0, none⟩) (Nat.le_refl _) (.bool true)⟩)
      clear hB1
      go_wp2_with fail
      clear hmk hc0 hf0 hlt0 hb1
      generalize W1.setCell ⟨W.heap.size, 0, none⟩ (.bool true) = W2 at *
      go_loopw [6, 7] (fun v6 v7 wr => ∃ (k m cap : Nat), k ≤ es.length ∧ v7 = .int .i64 (k : Int) ∧ v6 = .slice (some ⟨m, 0, none⟩) (s.size + 1) cap ∧ DpAt W es (toL s) k m wr) (fun _ v7 _ => es.length - (intOf v7).toNat)
      case atStart => exact ⟨0, W.heap.size, _, by omega, rfl, rfl, HD0.out⟩
      case round =>
        obtain ⟨k, m, cap, hk, rfl, rfl, hD⟩ := hrel
        clear HD0
        obtain ⟨wo, rfl⟩ : ∃ wo : World, wo = wr := ⟨_, rfl⟩
        have HD := Lib.hid hD; clear hD
        have hcell := (HE.out.below HD.out.bel).cell
        by_cases hlt : k < es.length
        · have k0 : (0 : Int) ≤ (k : Int) := by omega
          have k1 : (k : Int) < (es.length : Int) := by omega
          obtain ⟨W5, hmk, hB5, hb5⟩ := run_make_bools wo (s.size + 1) ((s.size : Int) + 1) (by omega) (by omega)
          have HN0 := Lib.hid (show NxAt wo.heap.size wo es (toL s) (k + 1) 0 W5 from ⟨by
            rw [dpG_zero, HL.out]; exact hB5, hb5⟩)
          obtain ⟨bb, off, hA, hblt, h0, hj⟩ := (HE.out.below HD.out.bel).at hlt
          subst hA
          have HJ := Lib.hid hj
          have hmlt : m < wo.heap.size := heap_lt HD.out.bools
          have hpb : w.heap.size < wo.heap.size := World.block_lt_of_cell? wo _ hcell
          clear hj hb5 hB5
          go_wp2_with fail
          clear hmk
          have HST := Lib.hid (fun j (hs : es[k].isStar = true) (hj : j < s.size) (hc : isChar ((toL s)[j]'(by rw [HL.out]; exact hj)) = true) => dp_star_succ es k hlt hs (toL s) j (by rw [HL.out]; exact hj) hc)
          have HST0 := Lib.hid (fun (hs : es[k].isStar = true) => dp_star_zero es k hlt hs)
          have HON := Lib.hid (fun j (hs : es[k].isStar = false) (hj : j < s.size) => dp_one_succ es k hlt hs (toL s) j (by rw [HL.out]; exact hj))
          have HON0 := Lib.hid (fun (hs : es[k].isStar = false) => dp_one_zero es k hlt hs)
          generalize hm4 : wo.heap.size = m4 at *
          go_loopw [9, 38] (fun v9 _ wx => ∃ i : Nat, i ≤ s.size + 1 ∧ v9 = .int .i64 (i : Int) ∧ NxAt m4 wo es (toL s) (k + 1) i wx) (fun v9 _ _ => s.size + 1 - (intOf v9).toNat)
          case atStart => exact ⟨0, by omega, rfl, HN0.out⟩
          case round =>
            obtain ⟨i, hi, rfl, hN⟩ := hrel
            clear HN0
            obtain ⟨wi, rfl⟩ : ∃ wi : World, wi = wr := ⟨_, rfl⟩
            have HN := Lib.hid hN; clear hN
            have g0 := (HN.out.bel.cell (p := ⟨bb, off + k * 129, none⟩) hblt).trans h0
            have gc := (HN.out.bel.cell (p := ⟨w.heap.size, 1, none⟩) hpb).trans hcell
            by_cases hil : i ≤ s.size
            · have i0 : (0 : Int) ≤ (i : Int) := by omega
              have i1 : (i : Int) < ((s.size + 1 : Nat) : Int) := by omega
              have i2 : (i : Int) ≤ (s.size : Int) := by omega
              have hLi : i ≤ (toL s).length := by rw [HL.out]; exact hil
              have hcan : wi.cell? ⟨m, i, none⟩ = some (.bool (matchF (es.take k) ((toL s).take i))) := by
                rw [(HN.out.bel.cell (p := ⟨m, i, none⟩) hmlt), HD.out.bools.cell i (by rw [dpF_len, HL.out]; omega), dpF_get _ _ _ _ hLi]
              have hold := HN.out.bools.cell i (by rw [dpG_len, HL.out]; omega)
              have hfre := HN.out.bools.free i
              have l1 : m < wi.heap.size := Nat.lt_of_lt_of_le (Nat.lt_of_lt_of_le hmlt (Nat.le_of_eq hm4.symm)) (Nat.le_trans (Nat.le_of_eq hm4) (Nat.le_of_lt (heap_lt HN.out.bools)))
              have l2 : bb < wi.heap.size := World.block_lt_of_cell? wi _ g0
              have l3 : w.heap.size < wi.heap.size := World.block_lt_of_cell? wi _ gc
              have l4 : m4 < wi.heap.size := heap_lt HN.out.bools
              rcases hs : es[k].isStar with _ | _
              · rw [hs] at g0
                rcases Nat.eq_zero_or_pos i with hi0 | hi0
                · have HS := Lib.hid (HN.out.skip hLi (by rw [hi0]; exact HON0.out hs))
                  have gd : decide ((0 : Int) < (i : Int)) = false := by simp; omega
                  have ge : (i : Int) ≤ 0 := by omega
                  clear hcan hold hfre hs hi0
                  go_wp2_with fail
                  go_roundw
                  case rel => exact ⟨i + 1, by omega, by go_num, HS.out⟩
                  case measure => simp [intOf] <;> omega
                · obtain ⟨j, rfl⟩ : ∃ j, i = j + 1 := ⟨i - 1, by omega⟩
                  have hjs : j < s.size := by omega
                  have hcj : wi.cell? ⟨m, j, none⟩ = some (.bool (matchF (es.take k) ((toL s).take j))) := by
                    rw [(HN.out.bel.cell (p := ⟨m, j, none⟩) hmlt), HD.out.bools.cell j (by rw [dpF_len, HL.out]; omega), dpF_get _ _ _ _ (by omega)]
                  have HV := Lib.hid (HON.out j hs hjs)
                  have HCJ := Lib.hid (char_lt _ (HCS.out _ (List.getElem_mem (show j < (toL s).length by rw [HL.out]; exact hjs))))
                  have hsj := (HN.out.bel.cell (p := ⟨bb, off + k * 129 + 1 + (s[j]'hjs).toNat, none⟩) hblt).trans (HJ.out (s[j]'hjs).toNat (by have := HCJ.out; rw [toL_getElem s j hjs] at this; exact this))
                  rw [emFn_one hs] at hsj
                  rw [toL_getElem s j hjs] at HV
                  have e1 : IntKind.i64.wrap ((j : Int) + 1 - 1) = (j : Int) := by rw [Int.add_sub_cancel]; exact IntWalk.i64_in _ (by omega)
                  have e2 : (num (s[j]'hjs)).toNat = (s[j]'hjs).toNat := by simp [num]
                  have e3 : (0 : Int) ≤ num (s[j]'hjs) := by simp only [num]; omega
                  have e4 : num (s[j]'hjs) < 128 := by have := HCJ.out; rw [toL_getElem s j hjs] at this; simp only [num]; omega
                  have j0 : (0 : Int) ≤ (j : Int) := by omega
                  have j1 : (j : Int) < ((s.size + 1 : Nat) : Int) := by omega
                  have j2 : (j : Int) < (s.size : Int) := by omega
                  have j3 : (0 : Int) < (j : Int) + 1 := by omega
                  have j4 : (j : Int) + 1 < ((s.size + 1 : Nat) : Int) := by omega
                  clear hcan hs hi0
                  generalize es[k].chars.contains (s[j]'hjs) = b2 at *
                  rcases hb1 : matchF (es.take k) ((toL s).take j) with _ | _
                  · rw [hb1] at hcj
                    rw [hb1, Bool.false_and] at HV
                    have HS := Lib.hid (HN.out.put hLi false HV.out).drew
                    clear hb1 HV hsj
                    go_wp2_with fail
                    go_region
                    all_goals
                      go_wp2_with fail
                      go_roundw
                      case rel => exact ⟨j + 1 + 1, by omega, by go_num, HS.out⟩
                      case measure => simp [intOf] <;> omega
                  · rw [hb1] at hcj
                    rw [hb1, Bool.true_and] at HV
                    have HS := Lib.hid (HN.out.put hLi b2 HV.out).drew
                    clear hb1 HV
                    go_wp2_with fail
                    go_region
                    all_goals
                      go_wp2_with fail
                      go_roundw
                      case rel => exact ⟨j + 1 + 1, by omega, by go_num, HS.out⟩
                      case measure => simp [intOf] <;> omega
              · rw [hs] at g0
                rcases Nat.eq_zero_or_pos i with hi0 | hi0
                · have HV := Lib.hid (show matchF (es.take (k + 1)) ((toL s).take i) = matchF (es.take k) ((toL s).take i) from by rw [hi0, List.take_zero]; exact HST0.out hs)
                  have gd : decide ((0 : Int) < (i : Int)) = false := by simp; omega
                  have ge : (i : Int) ≤ 0 := by omega
                  rcases hb1 : matchF (es.take k) ((toL s).take i) with _ | _
                  all_goals
                    have HS := Lib.hid (HN.out.put hLi _ (HV.out.trans hb1))
                    rw [hb1] at hcan
                    clear hb1 hs hi0
                    go_wp2_with fail
                    go_roundw
                    case rel => exact ⟨i + 1, by omega, by go_num, HS.out⟩
                    case measure => simp [intOf] <;> omega
                · obtain ⟨j, rfl⟩ : ∃ j, i = j + 1 := ⟨i - 1, by omega⟩
                  have hjs : j < s.size := by omega
                  have HV := Lib.hid (HST.out j hs hjs (HCS.out _ (List.getElem_mem _)))
                  have hnj : wi.cell? ⟨m4, j, none⟩ = some (.bool (matchF (es.take (k + 1)) ((toL s).take j))) := by
                    rw [HN.out.bools.cell j (by rw [dpG_len, HL.out]; omega), dpG_get _ _ _ _ _ (by omega) (by omega)]
                  have e1 : IntKind.i64.wrap ((j : Int) + 1 - 1) = (j : Int) := by rw [Int.add_sub_cancel]; exact IntWalk.i64_in _ (by omega)
                  have j0 : (0 : Int) ≤ (j : Int) := by omega
                  have j1 : (j : Int) < ((s.size + 1 : Nat) : Int) := by omega
                  have j3 : (0 : Int) < (j : Int) + 1 := by omega
                  have j4 : (j : Int) + 1 < ((s.size + 1 : Nat) : Int) := by omega
                  clear hi0 hs
                  rcases hb1 : matchF (es.take k) ((toL s).take (j + 1)) with _ | _
                  · rw [hb1] at hcan
                    rw [hb1, Bool.false_or] at HV
                    have HS := Lib.hid (HN.out.put hLi _ HV.out)
                    clear hb1 HV
                    generalize matchF (es.take (k + 1)) ((toL s).take j) = b2 at *
                    go_wp2_with fail
                    go_roundw
                    case rel => exact ⟨j + 1 + 1, by omega, by go_num, HS.out⟩
                    case measure => simp [intOf] <;> omega
                  · rw [hb1] at hcan
                    rw [hb1, Bool.true_or] at HV
                    have HS := Lib.hid (HN.out.put hLi _ HV.out)
                    clear hb1 HV hnj
                    go_wp2_with fail
                    go_roundw
                    case rel => exact ⟨j + 1 + 1, by omega, by go_num, HS.out⟩
                    case measure => simp [intOf] <;> omega
            · obtain rfl : i = s.size + 1 := by omega
              have HS := Lib.hid (show DpAt W es (toL s) (k + 1) m4 wi from ⟨by
                have := HN.out.bools
                rw [← HL.out, dpG_all] at this; exact this, HD.out.bel.trans (HN.out.bel.mono (by rw [← hm4]; exact HD.out.bel.size))⟩)
              have ge : (s.size : Int) < ((s.size + 1 : Nat) : Int) := by omega
              have ge2 : (s.size : Int) < (s.size : Int) + 1 := by omega
              clear hm4
              go_wp2_with fail
              go_roundw
              case rel => exact ⟨k + 1, m4, _, by omega, by go_num, rfl, HS.out⟩
              case measure => simp [intOf] <;> omega
        · obtain rfl : k = es.length := by omega
          have hend := HD.out.bools.cell s.size (by rw [dpF_len, HL.out]; omega)
          rw [show (dpF es (toL s) es.length).getD s.size false = matchF es (toL s) from by rw [← HL.out]; exact dpF_end es (toL s)] at hend
          have hi1 : (0 : Int) ≤ (s.size : Int) := by omega
          have hi2 : (s.size : Int) < ((s.size + 1 : Nat) : Int) := by omega
          have HBB := Lib.hid (HB.out.trans (HD.out.bel.mono HB.out.size))
          go_wp2_with fail
          go_ret
          exact ⟨rfl, HBB.out⟩
end Go.Proofs.YtmiieifcefgedaaDoor
