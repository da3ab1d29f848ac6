/- The walks over the reference's Strip and Quote. -/
import Derived.Test.YtcohgjdijhogbaaPt21
namespace Go.Proofs.Ytcohgjdijhogbaa
set_option linter.unusedSimpArgs false
set_option linter.unusedVariables false
open Go.RowKit

theorem lines_len (L : List UInt8) : (linesF L).length ≤ L.length + 1 := by
  unfold linesF spans; rw [List.length_map]; exact spans_len _ _ _
theorem cut_le (L : List UInt8) (a b : Nat) : (cutL L a b).length ≤ L.length := by
  unfold cutL; rw [List.length_take, List.length_drop]; omega
theorem line_le {L x : List UInt8} (h : x ∈ linesF L) : x.length ≤ L.length := by
  unfold linesF at h
  obtain ⟨p, _, rfl⟩ := List.mem_map.1 h
  exact cut_le _ _ _
set_option maxHeartbeats 4000000 in
set_option maxRecDepth 100000 in
theorem rf_strip (s : ByteArray) (lev : Int) (w : World) (hs : s.size ≤ 10000) : Calls Try.prog 24 #[.string s, .int .i64 lev] w fun e w' => e = .returned (.tuple #[.string (ofL (strF (toL s) lev).1), .int .i64 (strF (toL s) lev).2]) ∧ Below w.heap.size w w' := by
  have HL := Lib.hid (toL_length s)
  have HV0 := Lib.hid (show strF (toL s) lev = if lev < 1 then ([], 2) else if (bodyF (toL s)).2 ≠ 0 then ([], (bodyF (toL s)).2) else (strL lev (linesF (toL s)), 0) from rfl)
  by_cases hl : lev < 1
  · have HV := Lib.hid (show strF (toL s) lev = ([], 2) from by rw [HV0.out, if_pos hl])
    go_enter Try.func24, Try.ntmps24
    go_wp2_with fail
    go_ret2
    exact ⟨by rw [HV.out]; rfl, Below.refl _ _⟩
  · have HBD := Lib.hid (fun wx => rf_body s wx (by omega))
    have HLN := Lib.hid (fun wx => rf_lines s wx (by omega))
    have hl' : 1 ≤ lev := by omega
    by_cases he : (bodyF (toL s)).2 = 0
    · have HV := Lib.hid (show strF (toL s) lev = (strL lev (linesF (toL s)), 0) from by rw [HV0.out, if_neg hl, if_neg (by omega)])
      have hll := lines_len (toL s)
      have HLE := Lib.hid (fun x (h : x ∈ linesF (toL s)) => line_le h)
      rw [HL.out] at hll HLE
      clear HV0 hl
      generalize bodyF (toL s) = bf at *
      obtain ⟨bn, be⟩ := bf
      simp only at he HBD
      subst he
      go_enter Try.func24, Try.ntmps24
      go_wp2_with ((go_at_call 12; (with_reducible refine (HBD.out _).mono ?_); rintro e w1 ⟨rfl, hb1⟩))
      (with_reducible refine (HLN.out _).mono ?_)
      rintro e w2 ⟨v, rfl, hS⟩
      have HB2 := Lib.hid (hb1.trans (hS.bel.mono hb1.size))
      obtain ⟨A, c, rfl, hR⟩ := own_row hS.own
      have HR := Lib.hid hR
      generalize linesF (toL s) = ls at *
      clear hS hR hb1 HBD HLN
      go_wp2_with fail
      go_loop [8, 10] (fun v8 v10 => ∃ (k : Nat) (out : ByteArray), k ≤ ls.length ∧ v10 = .int .i64 (k : Int) ∧ v8 = .string out ∧ toL out = strL lev (ls.take k) ∧ out.size ≤ k * 20000) (fun _ v10 => ls.length - (intOf v10).toNat)
      case atStart => exact ⟨0, ⟨#[]⟩, by omega, rfl, rfl, rfl, (Nat.zero_le _ : 0 ≤ 0 * 20000)⟩
      case round =>
        obtain ⟨k, out, hk, rfl, rfl, ho, hsz⟩ := hrel
        have HO := Lib.hid ho; clear ho
        have k0 : (0 : Int) ≤ (k : Int) := by omega
        by_cases hlt : k < ls.length
        · have k1 : (k : Int) < (ls.length : Int) := by omega
          obtain ⟨g, off, rfl, hc⟩ := HR.out.cell (k := k) (by simpa using hlt)
          simp only [strsL, List.getElem_map] at hc
          have hxs := HLE.out _ (List.getElem_mem hlt)
          have HN := Lib.hid (show strL lev (ls.take (k + 1)) = strL lev (ls.take k) ++ (if (levN ls[k] : Int) < lev then ls[k] ++ [10] else []) from by
            rw [List.take_succ_eq_append_getElem hlt, strL_snoc])
          obtain ⟨X, hX⟩ : ∃ X, X = ofL ls[k] := ⟨_, rfl⟩
          have hXL : ls[k] = toL X := by rw [hX, toL_ofL]
          rw [← hX] at hc
          rw [hXL] at hxs HN
          rw [toL_length] at hxs
          have HLV := Lib.hid (fun wx => rf_level X wx (by omega))
          clear hX hXL
          by_cases hn : (levN (toL X) : Int) < lev
          · have HT := Lib.hid (show toL (out ++ (X ++ ⟨#[10]⟩)) = strL lev (ls.take (k + 1)) from by
              rw [HN.out, if_pos hn, ← HO.out]; simp [toL])
            have HSZ := Lib.hid (show (out ++ (X ++ ⟨#[10]⟩)).size ≤ (k + 1) * 20000 from by rw [app_size, app_size, one_size]; omega)
            generalize levN (toL X) = nl at *
            generalize levR (toL X) = rl at *
            go_wp2_with ((go_at_call 20; (with_reducible refine (HLV.out _).mono ?_); rintro e w' ⟨rfl, rfl⟩))
            go_round
            case rel => exact ⟨k + 1, _, by omega, by go_num, rfl, HT.out, HSZ.out⟩
            case measure => simp [intOf] <;> omega
          · have HT := Lib.hid (show toL out = strL lev (ls.take (k + 1)) from by
              rw [HN.out, if_neg hn, ← HO.out, List.append_nil])
            have hn' : lev ≤ (levN (toL X) : Int) := by omega
            generalize levN (toL X) = nl at *
            generalize levR (toL X) = rl at *
            clear hn
            go_wp2_with ((go_at_call 20; (with_reducible refine (HLV.out _).mono ?_); rintro e w' ⟨rfl, rfl⟩))
            go_round
            case rel => exact ⟨k + 1, _, by omega, by go_num, rfl, HT.out, by omega⟩
            case measure => simp [intOf] <;> omega
        · obtain rfl : k = ls.length := by omega
          have HR2 := Lib.hid (show ofL (strL lev ls) = out from by rw [← ofL_toL out, HO.out, List.take_length])
          have k1 : (ls.length : Int) ≤ (ls.length : Int) := by omega
          go_wp2_with fail
          go_ret2
          exact ⟨by rw [HV.out, HR2.out]; rfl, HB2.out⟩
    · have HV := Lib.hid (show strF (toL s) lev = ([], (bodyF (toL s)).2) from by rw [HV0.out, if_neg hl, if_pos he])
      clear HV0 hl
      generalize bodyF (toL s) = bf at *
      obtain ⟨bn, be⟩ := bf
      simp only at he HBD HV
      have e1 : (be != 0) = true := by simp [bne, he]
      clear he
      go_enter Try.func24, Try.ntmps24
      go_wp2_with ((go_at_call 12; (with_reducible refine (HBD.out _).mono ?_); rintro e w1 ⟨rfl, hb1⟩))
      go_ret2
      exact ⟨by rw [HV.out]; rfl, hb1⟩
end Go.Proofs.Ytcohgjdijhogbaa
