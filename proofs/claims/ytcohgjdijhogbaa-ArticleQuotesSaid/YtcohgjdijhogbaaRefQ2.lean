/- The walks over the reference's Quote and Divide. -/
import Derived.Test.YtcohgjdijhogbaaRefQ
namespace Go.Proofs.Ytcohgjdijhogbaa
set_option linter.unusedSimpArgs false
set_option linter.unusedVariables false
open Go.RowKit

theorem quo_q1 {x : ByteArray} (h : x.size = 0 ∨ 0 < levN (toL x)) : toL ((⟨#[62]⟩ : ByteArray) ++ x) = quoL (toL x) := by
  rw [quo_cat1, toL_ofL]; unfold quoL
  rw [if_pos (h.imp (fun h => toL_nil h) id)]
theorem quo_q2 {x : ByteArray} (h : ¬ x.size = 0) (h2 : ¬ 0 < levN (toL x)) : toL ((⟨#[62, 32]⟩ : ByteArray) ++ x) = quoL (toL x) := by
  rw [quo_cat2, toL_ofL]; unfold quoL
  rw [if_neg (by rintro (e | e); exact h (by rw [← toL_length, e]; rfl); exact h2 e)]
theorem q1_size (x : ByteArray) : (((⟨#[62]⟩ : ByteArray) ++ x).size : Int) = 1 + (x.size : Int) := by rw [app_size, one_size]; omega
theorem q2_size (x : ByteArray) : (((⟨#[62, 32]⟩ : ByteArray) ++ x).size : Int) = 2 + (x.size : Int) := by rw [app_size, show (⟨#[62, 32]⟩ : ByteArray).size = 2 from rfl]; omega
theorem lev_nil {x : ByteArray} (h : x.size = 0) : levN (toL x) = 0 := by rw [toL_nil h]; rfl
set_option maxHeartbeats 4000000 in
set_option maxRecDepth 100000 in
theorem rf_quote (s : ByteArray) (w : World) (hs : s.size ≤ 10000) : Calls Try.prog 18 #[.string s] w fun e w' => e = .returned (.tuple #[.string (ofL (quoF (toL s)).1), .int .i64 (quoF (toL s)).2]) ∧ Below w.heap.size w w' := by
  have HL := Lib.hid (toL_length s)
  have HV0 := Lib.hid (show quoF (toL s) = if (bodyF (toL s)).2 ≠ 0 then ([], (bodyF (toL s)).2) else quoGo (linesF (toL s)) [] from rfl)
  have HBD := Lib.hid (fun wx => rf_body s wx (by omega))
  have HLN := Lib.hid (fun wx => rf_lines s wx (by omega))
  by_cases he : (bodyF (toL s)).2 = 0
  · have HV := Lib.hid (show quoF (toL s) = quoGo (linesF (toL s)) [] from by rw [HV0.out, if_neg (by omega)])
    have hll := lines_len (toL s)
    have HLE := Lib.hid (fun x (h : x ∈ linesF (toL s)) => line_le h)
    rw [HL.out] at hll HLE
    clear HV0
    generalize bodyF (toL s) = bf at *
    obtain ⟨bn, be⟩ := bf
    simp only at he HBD
    subst he
    go_enter Try.func18, Try.ntmps18
    go_wp2_with ((go_at_call 12; (with_reducible refine (HBD.out _).mono ?_); rintro e w1 ⟨rfl, hb1⟩))
    (with_reducible refine (HLN.out _).mono ?_)
    rintro e w2 ⟨v, rfl, hS⟩
    have HB2 := Lib.hid (hb1.trans (hS.bel.mono hb1.size))
    obtain ⟨A, c, rfl, hR⟩ := own_row hS.own
    have HR := Lib.hid hR
    generalize linesF (toL s) = ls at *
    clear hS hR hb1 HBD HLN
    go_wp2_with fail
    go_loop [6, 8] (fun v6 v8 => ∃ (k : Nat) (out : ByteArray), k ≤ ls.length ∧ v8 = .int .i64 (k : Int) ∧ v6 = .string out ∧ quoGo ls [] = quoGo (ls.drop k) (toL out) ∧ out.size ≤ k * 20000) (fun _ v8 => ls.length - (intOf v8).toNat)
    case atStart => exact ⟨0, ⟨#[]⟩, by omega, rfl, rfl, rfl, (Nat.zero_le _ : 0 ≤ 0 * 20000)⟩
    case round =>
      obtain ⟨k, out, hk, rfl, rfl, ho, hsz⟩ := hrel
      have HO := Lib.hid ho; clear ho
      have k0 : (0 : Int) ≤ (k : Int) := by omega
      have HOL := Lib.hid (toL_length out)
      by_cases hlt : k < ls.length
      · have k1 : (k : Int) < (ls.length : Int) := by omega
        obtain ⟨g, off, rfl, hc⟩ := HR.out.cell (k := k) (by simpa using hlt)
        simp only [strsL, List.getElem_map] at hc
        have hxs := HLE.out _ (List.getElem_mem hlt)
        have HN := Lib.hid (show quoGo ls [] = if 998 < (quoL ls[k]).length then ([], 5) else quoGo (ls.drop (k + 1)) (toL out ++ (quoL ls[k] ++ [10])) from by
          rw [HO.out, List.drop_eq_getElem_cons hlt, quoGo])
        obtain ⟨X, hX⟩ : ∃ X, X = ofL ls[k] := ⟨_, rfl⟩
        have hXL : ls[k] = toL X := by rw [hX, toL_ofL]
        rw [← hX] at hc
        rw [hXL] at hxs HN
        rw [toL_length] at hxs
        have HLV := Lib.hid (fun wx => rf_level X wx (by omega))
        clear hX hXL HO
        have hq0 := quoL_le (toL X)
        rw [toL_length] at hq0
        have key : ∃ q : ByteArray, toL q = quoL (toL X) ∧ ((X.size = 0 ∧ levN (toL X) = 0 ∧ q = ⟨#[62]⟩ ++ X) ∨ (0 < levN (toL X) ∧ q = ⟨#[62]⟩ ++ X) ∨ (¬ X.size = 0 ∧ levN (toL X) = 0 ∧ q = ⟨#[62, 32]⟩ ++ X)) := by
          by_cases h0 : X.size = 0
          · exact ⟨_, quo_q1 (.inl h0), .inl ⟨h0, lev_nil h0, rfl⟩⟩
          · by_cases h1 : 0 < levN (toL X)
            · exact ⟨_, quo_q1 (.inr h1), .inr (.inl ⟨h1, rfl⟩)⟩
            · exact ⟨_, quo_q2 h0 h1, .inr (.inr ⟨h0, by omega, rfl⟩)⟩
        obtain ⟨q, hq, hkey⟩ := key
        have hqs : q.size = (quoL (toL X)).length := by rw [← hq, toL_length]
        have HQ := Lib.hid hq
        clear hq
        generalize levR (toL X) = rl at *
        by_cases hn : 998 < q.size
        · have HE := Lib.hid (show quoGo ls [] = ([], 5) from by rw [HN.out, if_pos (by omega)])
          have hn' : (998 : Int) < (q.size : Int) := by omega
          clear HN hqs
          rcases hkey with ⟨h0, h1, rfl⟩ | ⟨h1, rfl⟩ | ⟨h0, h1, rfl⟩
          · exfalso; rw [app_size, one_size] at hn; omega
          · rw [q1_size] at hn'
            have h1' : (0 : Int) < (levN (toL X) : Int) := by omega
            have h2' : decide ((0 : Int) < (levN (toL X) : Int)) = true := by simp; omega
            generalize levN (toL X) = nl at *
            clear hn h1
            go_wp2_with ((go_at_call 20; (with_reducible refine (HLV.out _).mono ?_); rintro e w' ⟨rfl, rfl⟩))
            go_ret2
            exact ⟨by rw [HV.out, HE.out]; rfl, HB2.out⟩
          · rw [q2_size] at hn'
            have hE := toList_cons h0
            rw [h1] at HLV
            clear hn h1 h0
            go_wp2_with ((go_at_call 20; (with_reducible refine (HLV.out _).mono ?_); rintro e w' ⟨rfl, rfl⟩))
            go_ret2
            exact ⟨by rw [HV.out, HE.out]; rfl, HB2.out⟩
        · have HE := Lib.hid (show quoGo ls [] = quoGo (ls.drop (k + 1)) (toL (out ++ (q ++ ⟨#[10]⟩))) from by
            rw [HN.out, if_neg (by omega), ← HQ.out]; simp [toL])
          have HSZ := Lib.hid (show (out ++ (q ++ ⟨#[10]⟩)).size ≤ (k + 1) * 20000 from by rw [app_size, app_size, one_size]; omega)
          have hn' : (q.size : Int) ≤ 998 := by omega
          clear HN hqs
          rcases hkey with ⟨h0, h1, rfl⟩ | ⟨h1, rfl⟩ | ⟨h0, h1, rfl⟩
          · rw [q1_size] at hn'
            have hE := toList_nil h0
            rw [h1] at HLV
            clear hn h1 h0
            go_wp2_with ((go_at_call 20; (with_reducible refine (HLV.out _).mono ?_); rintro e w' ⟨rfl, rfl⟩))
            go_round
            case rel => exact ⟨k + 1, _, by omega, by go_num, rfl, HE.out, HSZ.out⟩
            case measure => simp [intOf] <;> omega
          · rw [q1_size] at hn'
            have h1' : (0 : Int) < (levN (toL X) : Int) := by omega
            have h2' : decide ((0 : Int) < (levN (toL X) : Int)) = true := by simp; omega
            generalize levN (toL X) = nl at *
            clear hn h1
            go_wp2_with ((go_at_call 20; (with_reducible refine (HLV.out _).mono ?_); rintro e w' ⟨rfl, rfl⟩))
            go_round
            case rel => exact ⟨k + 1, _, by omega, by go_num, rfl, HE.out, HSZ.out⟩
            case measure => simp [intOf] <;> omega
          · rw [q2_size] at hn'
            have hE := toList_cons h0
            rw [h1] at HLV
            clear hn h1 h0
            go_wp2_with ((go_at_call 20; (with_reducible refine (HLV.out _).mono ?_); rintro e w' ⟨rfl, rfl⟩))
            go_round
            case rel => exact ⟨k + 1, _, by omega, by go_num, rfl, HE.out, HSZ.out⟩
            case measure => simp [intOf] <;> omega
      · obtain rfl : k = ls.length := by omega
        have HE := Lib.hid (show quoGo ls [] = if 65536 < out.size then ([], 5) else (toL out, 0) from by
          rw [HO.out, List.drop_length, quoGo, HOL.out])
        have k1 : (ls.length : Int) ≤ (ls.length : Int) := by omega
        by_cases h : 65536 < out.size
        · have HF := Lib.hid (show quoGo ls [] = ([], 5) from by rw [HE.out, if_pos h])
          have h' : (65536 : Int) < (out.size : Int) := by omega
          clear h HE
          go_wp2_with fail
          go_ret2
          exact ⟨by rw [HV.out, HF.out]; rfl, HB2.out⟩
        · have HF := Lib.hid (show quoGo ls [] = (toL out, 0) from by rw [HE.out, if_neg h])
          have h' : (out.size : Int) ≤ 65536 := by omega
          have HOO := Lib.hid (ofL_toL out)
          clear h HE
          go_wp2_with fail
          go_ret2
          exact ⟨by rw [HV.out, HF.out, HOO.out]; rfl, HB2.out⟩
  · have HV := Lib.hid (show quoF (toL s) = ([], (bodyF (toL s)).2) from by rw [HV0.out, if_pos he])
    clear HV0
    generalize bodyF (toL s) = bf at *
    obtain ⟨bn, be⟩ := bf
    simp only at he HBD HV
    have e1 : (be != 0) = true := by simp [bne, he]
    clear he
    go_enter Try.func18, Try.ntmps18
    go_wp2_with ((go_at_call 12; (with_reducible refine (HBD.out _).mono ?_); rintro e w1 ⟨rfl, hb1⟩))
    go_ret2
    exact ⟨by rw [HV.out]; rfl, hb1⟩
end Go.Proofs.Ytcohgjdijhogbaa
