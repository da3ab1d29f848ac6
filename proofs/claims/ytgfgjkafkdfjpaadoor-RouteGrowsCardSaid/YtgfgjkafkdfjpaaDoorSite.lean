/- Walks over msgid.Site and its reference. -/
import Derived.Test.YtgfgjkafkdfjpaaDoorAsc
import Derived.Test.YtgfgjkafkdfjpaaDoorSeekP
namespace Go.Proofs.YtgfgjkafkdfjpaaDoor
set_option linter.unusedSimpArgs false
set_option linter.unusedVariables false
open Go.RowKit

theorem siteF_nil (l : List UInt8) (h : l.length = 0) : siteF l = (0, 4) := by simp [siteF, h]
theorem siteF_long (l : List UInt8) (h : 30 < l.length) : siteF l = (30, 5) := by rw [siteF, if_neg (by omega), if_pos h]
theorem siteF_byte (l : List UInt8) (k : Nat) (h0 : 0 < l.length) (h1 : l.length ≤ 30) (hk : k < l.length) (h : seekN (fun i => !permitted (byteAt l i)) l.length 0 = k) : siteF l = (k, 6) := by
  rw [siteF, if_neg (by omega), if_neg (by omega), h, if_pos hk]
theorem siteF_place (l : List UInt8) (k : Nat) (h0 : 0 < l.length) (h1 : l.length ≤ 30) (hb : seekN (fun i => !permitted (byteAt l i)) l.length 0 = l.length) (hk : k < l.length) (h : seekN (misplaced l) l.length 0 = k) : siteF l = (k, 12) := by
  rw [siteF, if_neg (by omega), if_neg (by omega), hb, if_neg (by omega), h, if_pos hk]
theorem siteF_good (l : List UInt8) (h0 : 0 < l.length) (h1 : l.length ≤ 30) (hb : seekN (fun i => !permitted (byteAt l i)) l.length 0 = l.length) (h : seekN (misplaced l) l.length 0 = l.length) : siteF l = (0, 0) := by
  rw [siteF, if_neg (by omega), if_neg (by omega), hb, if_neg (by omega), h, if_neg (by omega)]

set_option maxHeartbeats 400000 in
theorem mid_permitted (c : Int) (w : World) :
    Calls Tryd.prog 37 #[.int .u8 c] w fun e w' => e = .returned (.bool (permitted c)) ∧ w = w' := by
  rcases h1 : isLower c with _ | _
  all_goals
    rcases h2 : isDigit c with _ | _
    all_goals
      go_enter Tryd.func37, Tryd.ntmps37
      go_wp2_with (first | (go_at_call 38; refine (asc_isLower _ _).mono ?_; rintro e w' ⟨rfl, rfl⟩) | (go_at_call 46; refine (asc_isDigit _ _).mono ?_; rintro e w' ⟨rfl, rfl⟩))
      all_goals (go_ret; exact ⟨ret_bool (by simp [permitted, *]), rfl⟩)

def SitePost (s : ByteArray) (w : World) (e : Ending) (w' : World) : Prop := e = .returned (.tuple #[.int .i64 (siteF (toL s)).1, .int .i64 (siteF (toL s)).2]) ∧ w = w'
theorem site_post {s : ByteArray} {w : World} {a : Nat} {b : Int} (h : siteF (toL s) = (a, b)) : SitePost s w (.returned (.tuple #[.int .i64 a, .int .i64 b])) w := ⟨by rw [h], rfl⟩

set_option maxHeartbeats 4000000 in
set_option maxRecDepth 100000 in
theorem mid_site (s : ByteArray) (w : World) (hs : s.size ≤ maxLen) :
    Calls Tryd.prog 31 #[.string s] w (SitePost s w) := by
  unfold maxLen at hs
  have HL := Lib.hid (toL_length s)
  by_cases h0 : s.size = 0
  · have H := Lib.hid (siteF_nil (toL s) (by rw [HL.out]; exact h0))
    have h1 := toList_nil h0
    clear h0
    go_enter Tryd.func31, Tryd.ntmps31
    go_wp2_with fail
    go_ret2
    exact site_post H.out
  · have h1 : s.toList.isEmpty = false := toList_cons h0
    have h2 : 0 < s.size := by omega
    clear h0
    by_cases h30 : 30 < s.size
    · have H := Lib.hid (siteF_long (toL s) (by rw [HL.out]; exact h30))
      go_enter Tryd.func31, Tryd.ntmps31
      go_wp2_with fail
      go_ret2
      exact site_post H.out
    · have h3 : s.size ≤ 30 := by omega
      have h4 : decide ((30 : Int) < (s.size : Int)) = false := by simp; omega
      clear h30
      have HB := Lib.hid (siteF_byte (toL s))
      have HP := Lib.hid (siteF_place (toL s))
      have HG := Lib.hid (siteF_good (toL s))
      rw [HL.out] at HB HP HG
      go_enter Tryd.func31, Tryd.ntmps31
      go_wp2_with fail
      go_loop [17, 4] (fun v _ => ∃ k : Nat, k ≤ s.size ∧ v = .int .i64 k ∧ seekN (fun i => !permitted (byteAt (toL s) i)) s.size 0 = seekN (fun i => !permitted (byteAt (toL s) i)) s.size k) (fun v _ => s.size - (intOf v).toNat)
      case atStart => exact ⟨0, by omega, rfl, rfl⟩
      case round =>
        obtain ⟨k, hk, rfl, hsk⟩ := hrel
        have HS := Lib.hid hsk; clear hsk
        by_cases hlt : k < s.size
        · have HA := Lib.hid (byteAt_eq s k hlt)
          rcases hp : permitted (num (s[k]'hlt)) with _ | _
          · have HX := Lib.hid (HB.out k h2 h3 hlt (HS.out.trans (seekN_stop _ _ _ hlt (by rw [HA.out, hp]; rfl))))
            go_wp2_with (go_at_call 37; refine (mid_permitted _ _).mono ?_; rintro e w' ⟨rfl, rfl⟩)
            go_ret2
            exact site_post HX.out
          · have HX := Lib.hid (HS.out.trans (seekN_step _ _ _ hlt (by rw [HA.out, hp]; rfl)))
            go_wp2_with (go_at_call 37; refine (mid_permitted _ _).mono ?_; rintro e w' ⟨rfl, rfl⟩)
            go_round
            case rel => exact ⟨k + 1, by omega, by go_num, HX.out⟩
            case measure => simp [intOf] <;> omega
        · have HN := Lib.hid (HS.out.trans (seekN_end _ _ _ (by omega)))
          have hke : k = s.size := by omega
          subst hke
          have HG2 := Lib.hid (HG.out h2 h3 HN.out)
          have HP2 := Lib.hid (fun k => HP.out k h2 h3 HN.out)
          clear HG HP HB HS HN
          go_wp2_with fail
          go_loop [29, 5] (fun v _ => ∃ k : Nat, k ≤ s.size ∧ v = .int .i64 k ∧ seekN (misplaced (toL s)) s.size 0 = seekN (misplaced (toL s)) s.size k) (fun v _ => s.size - (intOf v).toNat)
          case atStart => exact ⟨0, by omega, rfl, rfl⟩
          case round =>
            obtain ⟨k, hk, rfl, hsk⟩ := hrel
            have HS := Lib.hid hsk; clear hsk
            by_cases hlt2 : k < s.size
            · have HA := Lib.hid (byteAt_eq s k hlt2)
              have HBAD := Lib.hid (fun h => HP2.out k hlt2 (HS.out.trans (seekN_stop (misplaced (toL s)) s.size k hlt2 h)))
              have HOK := Lib.hid (fun h => HS.out.trans (seekN_step (misplaced (toL s)) s.size k hlt2 h))
              have hk1 : (0 : Int) ≤ (k : Int) := by omega
              obtain ⟨last, hlast⟩ : ∃ b : Bool, b = decide (k + 1 = s.size) := ⟨_, rfl⟩
              have e3 : ((k : Int) == (s.size : Int) - 1) = last := by
                rw [hlast, Bool.eq_iff_iff, beq_iff_eq, decide_eq_true_iff]; omega
              have HE3 := Lib.hid (show decide (k + 1 = (toL s).length) = last by rw [hlast, HL.out])
              clear hlast
              by_cases hk0 : k = 0
              · subst hk0
                have e3' : ((0 : Int) == (s.size : Int) - 1) = last := e3
                clear e3
                rcases hp : isLower (num (s[0]'hlt2)) with _ | _
                all_goals
                  rcases last with _ | _
                  all_goals
                    rcases e1 : (num (s[0]'hlt2) == 46) with _ | _
                    all_goals
                      rcases e4 : (num (s[0]'hlt2) == 45) with _ | _
                      all_goals
                        go_wp2_with (go_at_call 38; refine (asc_isLower _ _).mono ?_; rintro e w' ⟨rfl, rfl⟩)
                        first
                          | (go_ret2; exact site_post (HBAD.out (by simp [misplaced, HA.out, hp, HE3.out, e1, e4])))
                          | (go_round
                             case rel => exact ⟨1, by omega, rfl, HOK.out (by simp [misplaced, HA.out, hp, HE3.out, e1, e4])⟩
                             case measure => simp [intOf] <;> omega)
              · have hk2 : 0 < k := by omega
                have hk3 : decide ((0 : Int) < (k : Int)) = true := by simp; omega
                have hk4 : ((k : Int) == 0) = false := beq_eq_false_iff_ne.2 (by omega)
                have hk5 : (1 : Int) ≤ (k : Int) := by omega
                have hk6 : (k : Int) - 1 < (s.size : Int) := by omega
                have hk7 : k - 1 < s.size := by omega
                have HA2 := Lib.hid (byteAt_eq s (k - 1) hk7)
                rcases last with _ | _
                all_goals
                  rcases e1 : (num (s[k]'hlt2) == 46) with _ | _
                  all_goals
                    rcases e2 : (num (s[k - 1]'hk7) == 46) with _ | _
                    all_goals
                      rcases e4 : (num (s[k]'hlt2) == 45) with _ | _
                      all_goals
                        go_wp2_with (go_at_call 38; refine (asc_isLower _ _).mono ?_; rintro e w' ⟨rfl, rfl⟩)
                        first
                          | (go_ret2; exact site_post (HBAD.out (by simp [misplaced, HA.out, HA2.out, hk0, hk2, HE3.out, e1, e2, e4])))
                          | (go_round
                             case rel => exact ⟨k + 1, by omega, by go_num, HOK.out (by simp [misplaced, HA.out, HA2.out, hk0, hk2, HE3.out, e1, e2, e4])⟩
                             case measure => simp [intOf] <;> omega)
            · have HX := Lib.hid (HG2.out (HS.out.trans ((seekN_end _ _ _ (by omega)).trans (by omega))))
              go_wp2_with fail
              go_ret2
              exact site_post HX.out


set_option maxHeartbeats 4000000 in
set_option maxRecDepth 100000 in
theorem ref_site (s : ByteArray) (w : World) (hs : s.size ≤ maxLen) :
    Calls Tryd.prog 32 #[.string s] w (SitePost s w) := by
  unfold maxLen at hs
  have HL := Lib.hid (toL_length s)
  by_cases h0 : s.size = 0
  · have H := Lib.hid (siteF_nil (toL s) (by rw [HL.out]; exact h0))
    have h1 := toList_nil h0
    clear h0
    go_enter Tryd.func32, Tryd.ntmps32
    go_wp2_with fail
    go_ret2
    exact site_post H.out
  · have h1 : s.toList.isEmpty = false := toList_cons h0
    have h2 : 0 < s.size := by omega
    clear h0
    by_cases h30 : 30 < s.size
    · have H := Lib.hid (siteF_long (toL s) (by rw [HL.out]; exact h30))
      go_enter Tryd.func32, Tryd.ntmps32
      go_wp2_with fail
      go_ret2
      exact site_post H.out
    · have h3 : s.size ≤ 30 := by omega
      have h4 : decide ((30 : Int) < (s.size : Int)) = false := by simp; omega
      clear h30
      have HB := Lib.hid (siteF_byte (toL s))
      have HP := Lib.hid (siteF_place (toL s))
      have HG := Lib.hid (siteF_good (toL s))
      rw [HL.out] at HB HP HG
      go_enter Tryd.func32, Tryd.ntmps32
      go_wp2_with fail
      go_loop [4] (fun v => ∃ k : Nat, k ≤ s.size ∧ v = .int .i64 k ∧ seekN (fun i => !permitted (byteAt (toL s) i)) s.size 0 = seekN (fun i => !permitted (byteAt (toL s) i)) s.size k) (fun v => s.size - (intOf v).toNat)
      case atStart => exact ⟨0, by omega, rfl, rfl⟩
      case round =>
        obtain ⟨k, hk, rfl, hsk⟩ := hrel
        have HS := Lib.hid hsk; clear hsk
        by_cases hlt : k < s.size
        · have HA := Lib.hid (byteAt_eq s k hlt)
          have HBAD := Lib.hid (fun h => HB.out k h2 h3 hlt (HS.out.trans (seekN_stop (fun i => !permitted (byteAt (toL s) i)) s.size k hlt h)))
          have HOK := Lib.hid (fun h => HS.out.trans (seekN_step (fun i => !permitted (byteAt (toL s) i)) s.size k hlt h))
          rw [HA.out] at HBAD HOK
          rcases a1 : decide ((97 : Int) ≤ num (s[k]'hlt)) with _ | _ <;> rcases a2 : decide (num (s[k]'hlt) ≤ 122) with _ | _ <;> rcases a3 : decide ((48 : Int) ≤ num (s[k]'hlt)) with _ | _ <;> rcases a4 : decide (num (s[k]'hlt) ≤ 57) with _ | _ <;> rcases a5 : (num (s[k]'hlt) == 45) with _ | _ <;> rcases a6 : (num (s[k]'hlt) == 46) with _ | _
          all_goals
            first
              | (exfalso; clear HBAD HOK HA HB HP HG HS; simp only [decide_eq_true_eq, decide_eq_false_iff_not, beq_iff_eq, beq_eq_false_iff_ne, num] at a1 a2 a3 a4 a5 a6; omega)
              | (go_wp2_with fail
                 go_ret2; exact site_post (HBAD.out (by simp only [permitted, isLower, isDigit, a1, a2, a3, a4, a5, a6]; rfl)))
              | (go_wp2_with fail
                 go_round
                 case rel => exact ⟨k + 1, by omega, by go_num, HOK.out (by simp only [permitted, isLower, isDigit, a1, a2, a3, a4, a5, a6]; rfl)⟩
                 case measure => simp [intOf] <;> omega)
        · have HN := Lib.hid (HS.out.trans (seekN_end _ _ _ (by omega)))
          have hke : k = s.size := by omega
          subst hke
          have HG2 := Lib.hid (HG.out h2 h3 HN.out)
          have HP2 := Lib.hid (fun k => HP.out k h2 h3 HN.out)
          clear HG HP HB HS HN
          go_wp2_with fail
          go_loop [6] (fun v => ∃ k : Nat, k ≤ s.size ∧ v = .int .i64 k ∧ seekN (misplaced (toL s)) s.size 0 = seekN (misplaced (toL s)) s.size k) (fun v => s.size - (intOf v).toNat)
          case atStart => exact ⟨0, by omega, rfl, rfl⟩
          case round =>
            obtain ⟨k, hk, rfl, hsk⟩ := hrel
            have HS := Lib.hid hsk; clear hsk
            by_cases hlt2 : k < s.size
            · have HA := Lib.hid (byteAt_eq s k hlt2)
              have HBAD := Lib.hid (fun h => HP2.out k hlt2 (HS.out.trans (seekN_stop (misplaced (toL s)) s.size k hlt2 h)))
              have HOK := Lib.hid (fun h => HS.out.trans (seekN_step (misplaced (toL s)) s.size k hlt2 h))
              have hk1 : (0 : Int) ≤ (k : Int) := by omega
              obtain ⟨last, hlast⟩ : ∃ b : Bool, b = decide (k + 1 = s.size) := ⟨_, rfl⟩
              have e3 : ((k : Int) == (s.size : Int) - 1) = last := by
                rw [hlast, Bool.eq_iff_iff, beq_iff_eq, decide_eq_true_iff]; omega
              have HE3 := Lib.hid (show decide (k + 1 = (toL s).length) = last by rw [hlast, HL.out])
              clear hlast
              by_cases hk0 : k = 0
              · subst hk0
                have e3' : ((0 : Int) == (s.size : Int) - 1) = last := e3
                clear e3
                rcases q1 : decide ((97 : Int) ≤ num (s[0]'hlt2)) with _ | _
                all_goals
                  rcases q2 : decide (num (s[0]'hlt2) ≤ 122) with _ | _
                  all_goals
                    have hp := Lib.hid (show isLower (num (s[0]'hlt2)) = (decide ((97 : Int) ≤ num (s[0]'hlt2)) && decide (num (s[0]'hlt2) ≤ 122)) from rfl)
                    rcases last with _ | _
                    all_goals
                      rcases e1 : (num (s[0]'hlt2) == 46) with _ | _
                      all_goals
                        rcases e4 : (num (s[0]'hlt2) == 45) with _ | _
                        all_goals
                          go_wp2_with fail
                          first
                            | (go_ret2; exact site_post (HBAD.out (by simp [misplaced, HA.out, hp.out, q1, q2, HE3.out, e1, e4])))
                            | (go_round
                               case rel => exact ⟨1, by omega, rfl, HOK.out (by simp [misplaced, HA.out, hp.out, q1, q2, HE3.out, e1, e4])⟩
                               case measure => simp [intOf] <;> omega)
              · have hk2 : 0 < k := by omega
                have hk3 : decide ((0 : Int) < (k : Int)) = true := by simp; omega
                have hk4 : ((k : Int) == 0) = false := beq_eq_false_iff_ne.2 (by omega)
                have hk5 : (1 : Int) ≤ (k : Int) := by omega
                have hk6 : (k : Int) - 1 < (s.size : Int) := by omega
                have hk7 : k - 1 < s.size := by omega
                have HA2 := Lib.hid (byteAt_eq s (k - 1) hk7)
                rcases last with _ | _
                all_goals
                  rcases e1 : (num (s[k]'hlt2) == 46) with _ | _
                  all_goals
                    rcases e2 : (num (s[k - 1]'hk7) == 46) with _ | _
                    all_goals
                      rcases e4 : (num (s[k]'hlt2) == 45) with _ | _
                      all_goals
                        go_wp2_with fail
                        all_goals first
                          | (go_ret2; exact site_post (HBAD.out (by simp [misplaced, HA.out, HA2.out, hk0, hk2, HE3.out, e1, e2, e4])))
                          | (go_round
                             case rel => exact ⟨k + 1, by omega, by go_num, HOK.out (by simp [misplaced, HA.out, HA2.out, hk0, hk2, HE3.out, e1, e2, e4])⟩
                             case measure => simp [intOf] <;> omega)
            · have HX := Lib.hid (HG2.out (HS.out.trans ((seekN_end _ _ _ (by omega)).trans (by omega))))
              go_wp2_with fail
              go_ret2
              exact site_post HX.out

end Go.Proofs.YtgfgjkafkdfjpaaDoor
