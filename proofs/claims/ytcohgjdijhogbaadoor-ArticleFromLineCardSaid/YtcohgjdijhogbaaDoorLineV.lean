/- The walk over FromLine. -/
import Derived.Test.YtcohgjdijhogbaaDoorLineW
namespace Go.Proofs.YtcohgjdijhogbaaDoor
set_option linter.unusedSimpArgs false
set_option linter.unusedVariables false
open Go.RowKit

/-- Whether the byte before k is a carriage return. -/
def prevL (L : List UInt8) : Nat → Bool
  | 0 => false
  | k + 1 => L[k]? == some 13
theorem fb_at (s : ByteArray) (k : Nat) (h : k < s.size) : fbL (prevL (toL s) k) k ((toL s).drop k) = if (s[k]'h = 13 ∧ (toL s)[k + 1]? ≠ some 10) ∨ (s[k]'h = 10 ∧ prevL (toL s) k = false) then some k else fbL (prevL (toL s) (k + 1)) (k + 1) ((toL s).drop (k + 1)) := by
  have hl : k < (toL s).length := by rw [toL_length]; exact h
  rw [List.drop_eq_getElem_cons hl, fbL, toL_getElem s k h, List.head?_drop]
  have e : prevL (toL s) (k + 1) = (s[k]'h == 13) := by
    show ((toL s)[k]? == some 13) = _
    rw [byteAt s k h]; rfl
  rw [e]
/-- At the head of a round. -/
def FlRel (s : ByteArray) (v : Value) : Prop := ∃ k : Nat, k ≤ s.size ∧ v = .int .i64 (k : Int) ∧ fbL false 0 (toL s) = fbL (prevL (toL s) k) k ((toL s).drop k)
theorem prev_some {s : ByteArray} {k : Nat} (h : k < s.size) : prevL (toL s) (k + 1) = decide (s[k]'h = 13) := by
  show ((toL s)[k]? == some 13) = _
  rw [byteAt s k h, Bool.eq_iff_iff]; simp
set_option maxHeartbeats 4000000 in
set_option maxRecDepth 100000 in
theorem art_fromLine (s : ByteArray) (w : World) (hsh : w.ShapedOpen Tryd.prog) (hs : s.size ≤ 900000) : Calls Tryd.prog 8 #[.string s] w fun e w' => e = .returned (.tuple #[.string (ofL (flF (toL s)).text), .int .i64 ((flF (toL s)).at_ : Nat), .int .i64 (flF (toL s)).e]) ∧ Below w.heap.size w w' := by
  have HL := Lib.hid (toL_length s)
  have HV0 := Lib.hid (show flF (toL s) = if 131072 < s.size then ⟨[], 131072, 5⟩ else match fbL false 0 (toL s) with
    | some i => ⟨[], i, 3⟩
    | none => if lastOk (toL s) = false then ⟨[], s.size, 4⟩ else if 65536 < (uncr (toL s)).length then ⟨[], 0, 5⟩ else ⟨uncr (toL s), 0, 0⟩ from by rw [← HL.out]; rfl)
  have HNL := Lib.hid (has_nl s)
  have HBA := Lib.hid (byteAt s)
  by_cases h1 : 131072 < s.size
  · have HV := Lib.hid (show flF (toL s) = ⟨[], 131072, 5⟩ from by rw [HV0.out, if_pos h1])
    have h1' : (131072 : Int) < (s.size : Int) := by omega
    clear h1
    go_enter Tryd.func8, Tryd.ntmps8
    go_wp2_with fail
    go_ret3
    exact ⟨by rw [HV.out]; rfl, Below.refl _ _⟩
  · have h1' : (s.size : Int) ≤ 131072 := by omega
    have HV1 := Lib.hid (fun i (h : fbL false 0 (toL s) = some i) => show flF (toL s) = ⟨[], i, 3⟩ from by rw [HV0.out, if_neg h1, h])
    have HV2 := Lib.hid (fun (h : fbL false 0 (toL s) = none) => show flF (toL s) = if lastOk (toL s) = false then ⟨[], s.size, 4⟩ else if 65536 < (uncr (toL s)).length then ⟨[], 0, 5⟩ else ⟨uncr (toL s), 0, 0⟩ from by rw [HV0.out, if_neg h1, h])
    have HSH := Lib.hid hsh
    clear HV0 h1 hsh
    go_enter Tryd.func8, Tryd.ntmps8
    go_wp2_with fail
    go_loop [12, 5] (fun v12 _ => FlRel s v12) (fun v12 _ => s.size - (intOf v12).toNat)
    case atStart => exact ⟨0, by omega, rfl, rfl⟩
    case round =>
      obtain ⟨k, hk, rfl, hf⟩ := hrel
      have HF := Lib.hid hf; clear hf
      have k0 : (0 : Int) ≤ (k : Int) := by omega
      by_cases hlt : k < s.size
      · have k1 : (k : Int) < (s.size : Int) := by omega
        have HS := Lib.hid (fb_at s k hlt)
        by_cases h13 : s[k]'hlt = 13
        · have f1 : (num (s[k]'hlt) == 13) = true := by rw [h13]; rfl
          by_cases hn : k + 1 = s.size
          · have e1 : ((k : Int) + 1 == (s.size : Int)) = true := by rw [beq_iff_eq]; omega
            have HV := Lib.hid (HV1.out k (by rw [HF.out, HS.out, if_pos (.inl ⟨h13, by rw [List.getElem?_eq_none (by rw [HL.out]; omega)]; simp⟩)]))
            clear h13 hn
            go_wp2_with fail
            go_ret3
            exact ⟨by rw [HV.out]; rfl, Below.refl _ _⟩
          · have hn1 : k + 1 < s.size := by omega
            have e1 : ((k : Int) + 1 == (s.size : Int)) = false := beq_eq_false_iff_ne.2 (by omega)
            have k2 : (k : Int) + 1 < (s.size : Int) := by omega
            have k3 : ((k : Int) + 1).toNat = k + 1 := by omega
            have k4 : (0 : Int) ≤ (k : Int) + 1 := by omega
            by_cases h10 : s[k + 1]'hn1 = 10
            · have f2 : (num (s[k + 1]'hn1) != 10) = false := by rw [h10]; rfl
              have HN := Lib.hid (show fbL false 0 (toL s) = fbL (prevL (toL s) (k + 1)) (k + 1) ((toL s).drop (k + 1)) from by
                rw [HF.out, HS.out, if_neg (by rintro (⟨_, e⟩ | ⟨e, _⟩); exact e (by rw [HBA.out (k + 1) hn1, h10]); rw [h13] at e; cases e)])
              clear h13 h10 hn
              go_wp2_with fail
              go_round
              case rel => exact ⟨k + 1, by omega, by go_num, HN.out⟩
              case measure => simp [intOf] <;> omega
            · have f2 : (num (s[k + 1]'hn1) != 10) = true := by
                rw [bne, show (num (s[k + 1]'hn1) == 10) = decide ((s[k + 1]'hn1) = 10) from numq _ 10 (by omega), decide_eq_false h10]; rfl
              have HV := Lib.hid (HV1.out k (by rw [HF.out, HS.out, if_pos (.inl ⟨h13, by rw [HBA.out (k + 1) hn1]; intro e; injection e with e; exact h10 e⟩)]))
              clear h13 h10 hn
              go_wp2_with fail
              go_ret3
              exact ⟨by rw [HV.out]; rfl, Below.refl _ _⟩
        · have f1 : (num (s[k]'hlt) == 13) = false := by
            rw [show (num (s[k]'hlt) == 13) = decide ((s[k]'hlt) = 13) from numq _ 13 (by omega)]; exact decide_eq_false h13
          by_cases h10 : s[k]'hlt = 10
          · have f2 : (num (s[k]'hlt) == 10) = true := by rw [h10]; rfl
            cases k with
            | zero =>
              have HV := Lib.hid (HV1.out 0 (by rw [HF.out, HS.out, if_pos (.inr ⟨h10, rfl⟩)]))
              clear h13 h10
              go_wp2_with fail
              go_ret3
              exact ⟨by rw [HV.out]; rfl, Below.refl _ _⟩
            | succ j =>
              have hj : j < s.size := by omega
              have e1 : (((j + 1 : Nat) : Int) == 0) = false := beq_eq_false_iff_ne.2 (by omega)
              have k2 : ((j + 1 : Nat) : Int) - 1 = (j : Int) := by omega
              have k3 : (j : Int) < (s.size : Int) := by omega
              have k4 : (0 : Int) ≤ (j : Int) := by omega
              have HP := Lib.hid (prev_some hj)
              by_cases hp : s[j]'hj = 13
              · have f3 : (num (s[j]'hj) != 13) = false := by rw [hp]; rfl
                have HN := Lib.hid (show fbL false 0 (toL s) = fbL (prevL (toL s) (j + 1 + 1)) (j + 1 + 1) ((toL s).drop (j + 1 + 1)) from by
                  rw [HF.out, HS.out, if_neg (by rintro (⟨e, _⟩ | ⟨_, e⟩); exact h13 e; rw [HP.out, decide_eq_true hp] at e; cases e)])
                clear h13 h10 hp
                go_wp2_with fail
                go_round
                case rel => exact ⟨j + 1 + 1, by omega, by go_num, HN.out⟩
                case measure => simp [intOf] <;> omega
              · have f3 : (num (s[j]'hj) != 13) = true := by
                  rw [bne, show (num (s[j]'hj) == 13) = decide ((s[j]'hj) = 13) from numq _ 13 (by omega), decide_eq_false hp]; rfl
                have HV := Lib.hid (HV1.out (j + 1) (by rw [HF.out, HS.out, if_pos (.inr ⟨h10, by rw [HP.out]; exact decide_eq_false hp⟩)]))
                clear h13 h10 hp
                go_wp2_with fail
                go_ret3
                exact ⟨by rw [HV.out]; rfl, Below.refl _ _⟩
          · have f2 : (num (s[k]'hlt) == 10) = false := by
              rw [show (num (s[k]'hlt) == 10) = decide ((s[k]'hlt) = 10) from numq _ 10 (by omega)]; exact decide_eq_false h10
            have HN := Lib.hid (show fbL false 0 (toL s) = fbL (prevL (toL s) (k + 1)) (k + 1) ((toL s).drop (k + 1)) from by
              rw [HF.out, HS.out, if_neg (by rintro (⟨e, _⟩ | ⟨e, _⟩); exact h13 e; exact h10 e)])
            clear h13 h10
            go_wp2_with fail
            go_round
            case rel => exact ⟨k + 1, by omega, by go_num, HN.out⟩
            case measure => simp [intOf] <;> omega
      · obtain rfl : k = s.size := by omega
        have hnone : fbL false 0 (toL s) = none := by rw [HF.out, List.drop_eq_nil_of_le (by rw [HL.out]; exact Nat.le_refl _)]; rfl
        have HV := Lib.hid (HV2.out hnone)
        have HRU := Lib.hid (rep_uncr (toL s).length (toL s) (Nat.le_refl _) (fb_next _ _ _ hnone))
        have k1 : (s.size : Int) ≤ (s.size : Int) := by omega
        have k2 : decide (s.size < s.size) = false := by simp
        clear hnone HF HV1 HV2
        rcases h3 : lastOk (toL s) with _ | _
        · have HW := Lib.hid (show flF (toL s) = ⟨[], s.size, 4⟩ from by rw [HV.out, if_pos h3])
          have hz : ¬ s.size = 0 := fun e => by rw [last_nil s e] at h3; cases h3
          have hE := toList_cons hz
          rw [← last_ok s hz, h3] at HNL
          clear h3 hz
          go_wp2_with ((go_at_call 12; (with_reducible refine (Tryd.strings_HasSuffix s _ _ (by omega)).mono ?_); rintro e w' ⟨rfl, rfl⟩; rw [HNL.out]))
          go_ret3
          exact ⟨by rw [HW.out]; rfl, Below.refl _ _⟩
        · have HW := Lib.hid (show flF (toL s) = if 65536 < (uncr (toL s)).length then ⟨[], 0, 5⟩ else ⟨uncr (toL s), 0, 0⟩ from by rw [HV.out, h3]; rfl)
          have HRP := Lib.hid (fun wx (hx : wx.ShapedOpen Tryd.prog) => Tryd.strings_ReplaceAll_shaped s ⟨#[13, 10]⟩ ⟨#[10]⟩ wx hx (by omega) (by decide) (by
            have h9 := Lib.count_le s.data.toList [13, 10]
            have h8 : s.data.toList.length = s.size := toL_length s
            have h7 : Lib.countB s ⟨#[13, 10]⟩ = Lib.count s.data.toList [13, 10] := rfl
            rw [h7, one_size]; omega))
          have HRE := Lib.hid (show (⟨(Lib.replaceAll s.data.toList (⟨#[13, 10]⟩ : ByteArray).data.toList (⟨#[10]⟩ : ByteArray).data.toList).toArray⟩ : ByteArray) = ofL (uncr (toL s)) from by rw [← HRU.out]; rfl)
          rw [HRE.out] at HRP
          have hus : (ofL (uncr (toL s))).size = (uncr (toL s)).length := ofL_size _
          obtain ⟨U, hU⟩ : ∃ U, U = ofL (uncr (toL s)) := ⟨_, rfl⟩
          rw [← hU] at HRP hus
          have HU := Lib.hid hU
          clear hU HRE HRU HV
          have key : (U.size : Int) ≤ 65536 ∧ flF (toL s) = ⟨uncr (toL s), 0, 0⟩ ∨ (65536 : Int) < (U.size : Int) ∧ flF (toL s) = ⟨[], 0, 5⟩ := by
            by_cases hu : 65536 < (uncr (toL s)).length
            · exact .inr ⟨by omega, by rw [HW.out, if_pos hu]⟩
            · exact .inl ⟨by omega, by rw [HW.out, if_neg hu]⟩
          have hz2 : (s.toList = [] ∧ lastOk (toL s) = true) ∨ (s.toList.isEmpty = false ∧ Lib.hasSuffix s.data.toList (⟨#[10]⟩ : ByteArray).data.toList = true) := by
            by_cases hz : s.size = 0
            · exact .inl ⟨toList_nil hz, h3⟩
            · exact .inr ⟨toList_cons hz, by rw [HNL.out, ← last_ok s hz, h3]⟩
          clear h3 hus HW
          rcases key with ⟨u1, hk2⟩ | ⟨u1, hk2⟩
          · have HK := Lib.hid hk2
            clear hk2
            rcases hz2 with ⟨z1, _⟩ | ⟨z1, z2⟩
            · go_wp2_with (first | (go_at_call 13; (with_reducible refine (HRP.out _ HSH.out).mono ?_); rintro e w1 ⟨rfl, hb1⟩))
              go_ret3
              exact ⟨by rw [HK.out, ← HU.out]; rfl, hb1⟩
            · have HZ := Lib.hid z2
              clear z2
              go_wp2_with (first | (go_at_call 12; (with_reducible refine (Tryd.strings_HasSuffix s _ _ (by omega)).mono ?_); rintro e w' ⟨rfl, rfl⟩; rw [HZ.out]) | (go_at_call 13; (with_reducible refine (HRP.out _ HSH.out).mono ?_); rintro e w1 ⟨rfl, hb1⟩))
              go_ret3
              exact ⟨by rw [HK.out, ← HU.out]; rfl, hb1⟩
          · have HK := Lib.hid hk2
            clear hk2
            rcases hz2 with ⟨z1, _⟩ | ⟨z1, z2⟩
            · go_wp2_with (first | (go_at_call 13; (with_reducible refine (HRP.out _ HSH.out).mono ?_); rintro e w1 ⟨rfl, hb1⟩))
              go_ret3
              exact ⟨by rw [HK.out]; rfl, hb1⟩
            · have HZ := Lib.hid z2
              clear z2
              go_wp2_with (first | (go_at_call 12; (with_reducible refine (Tryd.strings_HasSuffix s _ _ (by omega)).mono ?_); rintro e w' ⟨rfl, rfl⟩; rw [HZ.out]) | (go_at_call 13; (with_reducible refine (HRP.out _ HSH.out).mono ?_); rintro e w1 ⟨rfl, hb1⟩))
              go_ret3
              exact ⟨by rw [HK.out]; rfl, hb1⟩
end Go.Proofs.YtcohgjdijhogbaaDoor
