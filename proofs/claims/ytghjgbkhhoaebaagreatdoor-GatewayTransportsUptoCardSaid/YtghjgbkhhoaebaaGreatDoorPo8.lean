/- Lemmas and walks, part 8. -/
import Derived.Test.YtghjgbkhhoaebaaGreatDoorPo7
import Derived.Test.YtghjgbkhhoaebaaGreatDoorShelf
namespace Go.Proofs.YtghjgbkhhoaebaaGreatDoor
set_option linter.unusedSimpArgs false
set_option linter.unusedVariables false
open Go.RowKit

theorem trim_space (X : ByteArray) : toL (⟨(Lib.trimPrefix X.data.toList (⟨#[32]⟩ : ByteArray).data.toList).toArray⟩ : ByteArray) = if (toL X)[0]? = some 32 then (toL X).drop 1 else toL X := by
  show (Lib.trimPrefix (toL X) [32]) = _
  cases h : toL X with
  | nil => rfl
  | cons c r =>
    by_cases e : c = 32
    · subst e; simp [Lib.trimPrefix, Lib.hasPrefix]
    · simp [Lib.trimPrefix, Lib.hasPrefix, e]; exact fun h => e h.symm
set_option maxHeartbeats 4000000 in
set_option maxRecDepth 100000 in
theorem art_level (s : ByteArray) (w : World) (hs : s.size ≤ 10000000) : Calls Tryz.prog 76 #[.string s] w fun e w' => e = .returned (.tuple #[.int .i64 (levN (toL s) : Nat), .string (ofL (levR (toL s)))]) ∧ w = w' := by
  have HL := Lib.hid (toL_length s)
  have hnl := levN_le s
  obtain ⟨n, hn⟩ : ∃ n, n = levN (toL s) := ⟨_, rfl⟩
  rw [← hn] at hnl
  have HN := Lib.hid hn
  have HK := Lib.hid (levK_zero (toL s))
  go_enter Tryz.func76, Tryz.ntmps76
  go_wp2_with fail
  go_loop [2, 4] (fun v4 _ => ∃ k : Nat, k ≤ s.size ∧ v4 = .int .i64 (k : Int) ∧ levN (toL s) = levK (toL s) k) (fun v4 _ => s.size - (intOf v4).toNat)
  case atStart => exact ⟨0, by omega, rfl, HK.out⟩
  case round =>
    obtain ⟨k, hk, rfl, hlk⟩ := hrel
    have HLK := Lib.hid hlk; clear hlk
    have k0 : (0 : Int) ≤ (k : Int) := by omega
    have key : (∃ h : k < s.size, s[k]'h = 62) ∨ ((∃ h : k < s.size, s[k]'h ≠ 62) ∨ k = s.size) := by
      by_cases h : k < s.size
      · by_cases e : s[k]'h = 62
        · exact .inl ⟨h, e⟩
        · exact .inr (.inl ⟨h, e⟩)
      · exact .inr (.inr (by omega))
    rcases key with ⟨hlt, e⟩ | hstop
    · have k1 : (k : Int) < (s.size : Int) := by omega
      have f1 : (num (s[k]'hlt) == 62) = true := by rw [e]; rfl
      have HR := Lib.hid (show levN (toL s) = levK (toL s) (k + 1) from by rw [HLK.out, levK_step hlt, if_pos e])
      clear e
      go_wp2_with fail
      go_round
      case rel => exact ⟨k + 1, by omega, by go_num, HR.out⟩
      case measure => simp [intOf] <;> omega
    · have HE := Lib.hid (show levN (toL s) = k from by
        rw [HLK.out]
        rcases hstop with ⟨hlt, e⟩ | rfl
        · rw [levK_step hlt, if_neg e]
        · exact levK_end (Nat.le_refl _))
      have HT := Lib.hid (ext_drop s k)
      have hxs : (s.extract k s.size).size = s.size - k := extract_size _ _ _ (Nat.le_refl _)
      have HR := Lib.hid (show levR (toL s) = if 0 < k ∧ (toL (s.extract k s.size))[0]? = some 32 then (toL s).drop (k + 1) else toL (s.extract k s.size) from by
        unfold levR; rw [HE.out, HT.out])
      have HT1 := Lib.hid (show toL ((s.extract k s.size).extract 1 (s.extract k s.size).size) = (toL s).drop (k + 1) from by
        rw [ext_drop, HT.out, List.drop_drop])
      have HSL := Lib.hid (show ∀ wx : World, True from fun _ => trivial)
      have hkey : (∃ h : k < s.size, (num (s[k]'h) == 62) = false ∧ (k : Int) < (s.size : Int)) ∨ (s.size : Int) ≤ (k : Int) := by
        rcases hstop with ⟨hlt, e⟩ | rfl
        · exact .inl ⟨hlt, by rw [show (num (s[k]'hlt) == 62) = decide ((s[k]'hlt) = 62) from numq _ 62 (by omega)]; exact decide_eq_false e, by omega⟩
        · exact .inr (by omega)
      have k1 : (k : Int) ≤ (s.size : Int) := by omega
      clear hstop HLK
      rcases hkey with ⟨hlt, f1, f2⟩ | f2
      all_goals
        go_upto_region 4 with fail
        generalize s.extract k s.size = X at *
        have HTR := Lib.hid (trim_space X)
        rcases Nat.eq_zero_or_pos k with hk0 | hk0
        · have HV := Lib.hid (show levR (toL s) = toL X from by rw [HR.out, if_neg (by omega)])
          have d0 : (k : Int) ≤ 0 := by omega
          have d1 : decide ((0 : Int) < (k : Int)) = false := by simp; omega
          clear hk0
          go_wp2_with fail
          go_ret2
          exact ⟨by rw [HE.out, HV.out, ofL_toL]; rfl, rfl⟩
        · have d0 : (0 : Int) < (k : Int) := by omega
          have HV := Lib.hid (show levR (toL s) = toL (⟨(Lib.trimPrefix X.data.toList (⟨#[32]⟩ : ByteArray).data.toList).toArray⟩ : ByteArray) from by
            rw [HTR.out, HR.out]
            by_cases e : (toL X)[0]? = some 32
            · rw [if_pos ⟨hk0, e⟩, if_pos e, HT.out, List.drop_drop]
            · rw [if_neg (fun h => e h.2), if_neg e])
          clear hk0
          go_wp2_with ((go_at_call 109; (with_reducible refine (Tryz.strings_TrimPrefix X _ _).mono ?_); rintro e w' ⟨rfl, rfl⟩))
          go_ret2
          exact ⟨by rw [HE.out, HV.out, ofL_toL]; rfl, rfl⟩
end Go.Proofs.YtghjgbkhhoaebaaGreatDoor
