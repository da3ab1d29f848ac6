/- The walk over the reference's FromLine. -/
import Derived.Test.YtcohgjdijhogbaaDoorRefLn
namespace Go.Proofs.YtcohgjdijhogbaaDoor
set_option linter.unusedSimpArgs false
set_option linter.unusedVariables false
open Go.RowKit

theorem uncr_snoc (l : List UInt8) (c : UInt8) : uncr (l ++ [c]) = uncr l ++ (if c = 13 then [] else [c]) := by
  unfold uncr
  rw [List.filter_append]
  by_cases h : c = 13 <;> simp [h]
/-- What the reference's FromLine has laid behind k bytes. -/
def FrRel (s : ByteArray) (w : World) (v5 v6 : Value) (wr : World) : Prop := ∃ (k : Nat), k ≤ s.size ∧ v6 = .int .i64 (k : Int) ∧ BytO w wr v5 (uncr ((toL s).take k)) ∧ fbL false 0 (toL s) = fbL (prevL (toL s) k) k ((toL s).drop k)
set_option maxHeartbeats 4000000 in
set_option maxRecDepth 100000 in
theorem rf_fromLine (s : ByteArray) (w : World) (hs : s.size ≤ 900000) : Calls Tryd.prog 10 #[.string s] w fun e w' => e = .returned (.tuple #[.string (ofL (flF (toL s)).text), .int .i64 ((flF (toL s)).at_ : Nat), .int .i64 (flF (toL s)).e]) ∧ Below w.heap.size w w' := by
  have HL := Lib.hid (toL_length s)
  have HV0 := Lib.hid (show flF (toL s) = if 131072 < s.size then ⟨[], 131072, 5⟩ else match fbL false 0 (toL s) with
    | some i => ⟨[], i, 3⟩
    | none => if lastOk (toL s) = false then ⟨[], s.size, 4⟩ else if 65536 < (uncr (toL s)).length then ⟨[], 0, 5⟩ else ⟨uncr (toL s), 0, 0⟩ from by rw [← HL.out]; rfl)
  have HBA := Lib.hid (byteAt s)
  by_cases h1 : 131072 < s.size
  · have HV := Lib.hid (show flF (toL s) = ⟨[], 131072, 5⟩ from by rw [HV0.out, if_pos h1])
    have h1' : (131072 : Int) < (s.size : Int) := by omega
    clear h1
    go_enter Tryd.func10, Tryd.ntmps10
    go_wp2_with fail
    go_ret3
    exact ⟨by rw [HV.out]; rfl, Below.refl _ _⟩
  · have h1' : (s.size : Int) ≤ 131072 := by omega
    have HV1 := Lib.hid (fun i (h : fbL false 0 (toL s) = some i) => show flF (toL s) = ⟨[], i, 3⟩ from by rw [HV0.out, if_neg h1, h])
    have HV2 := Lib.hid (fun (h : fbL false 0 (toL s) = none) => show flF (toL s) = if lastOk (toL s) = false then ⟨[], s.size, 4⟩ else if 65536 < (uncr (toL s)).length then ⟨[], 0, 5⟩ else ⟨uncr (toL s), 0, 0⟩ from by rw [HV0.out, if_neg h1, h])
    have HN0 := Lib.hid (byt_new w)
    clear HV0 h1
    go_enter Tryd.func10, Tryd.ntmps10
    go_wp2_with fail
    go_loopw [5, 6] (fun v5 v6 wr => FrRel s w v5 v6 wr) (fun _ v6 _ => s.size - (intOf v6).toNat)
    case atStart => exact ⟨0, by omega, rfl, HN0.out, rfl⟩
    case round =>
      obtain ⟨k, hk, rfl, hb, hf⟩ := hrel
      have HF := Lib.hid hf; have HB := Lib.hid hb
      clear hf hb HN0
      obtain ⟨wo, rfl⟩ : ∃ wo : World, wo = wr := ⟨_, rfl⟩
      have k0 : (0 : Int) ≤ (k : Int) := by omega
      have hul := uncr_len ((toL s).take k)
      rw [List.length_take, HL.out] at hul
      by_cases hlt : k < s.size
      · have k1 : (k : Int) < (s.size : Int) := by omega
        have HS := Lib.hid (fb_at s k hlt)
        have HT := Lib.hid (take_byte s k hlt)
        have HUS := Lib.hid (uncr_snoc ((toL s).take k) (s[k]'hlt))
        by_cases h13 : s[k]'hlt = 13
        · have f1 : (num (s[k]'hlt) == 13) = true := by rw [h13]; rfl
          have f1b : (num (s[k]'hlt) != 13) = false := by rw [h13]; rfl
          have f1c : (num (s[k]'hlt) == 10) = false := by rw [h13]; rfl
          by_cases hn : k + 1 = s.size
          · have e1 : ((k : Int) + 1 == (s.size : Int)) = true := by rw [beq_iff_eq]; omega
            have HV := Lib.hid (HV1.out k (by rw [HF.out, HS.out, if_pos (.inl ⟨h13, by rw [List.getElem?_eq_none (by rw [HL.out]; omega)]; simp⟩)]))
            clear h13 hn
            go_wp2_with fail
            go_ret3
            exact ⟨by rw [HV.out]; rfl, HB.out.bel⟩
          · have hn1 : k + 1 < s.size := by omega
            have e1 : ((k : Int) + 1 == (s.size : Int)) = false := beq_eq_false_iff_ne.2 (by omega)
            have k2 : (k : Int) + 1 < (s.size : Int) := by omega
            have k3 : ((k : Int) + 1).toNat = k + 1 := by omega
            have k4 : (0 : Int) ≤ (k : Int) + 1 := by omega
            by_cases h10 : s[k + 1]'hn1 = 10
            · have f2 : (num (s[k + 1]'hn1) != 10) = false := by rw [h10]; rfl
              have HN := Lib.hid (show fbL false 0 (toL s) = fbL (prevL (toL s) (k + 1)) (k + 1) ((toL s).drop (k + 1)) from by
                rw [HF.out, HS.out, if_neg (by rintro (⟨_, e⟩ | ⟨e, _⟩); exact e (by rw [HBA.out (k + 1) hn1, h10]); rw [h13] at e; cases e)])
              have HNX := Lib.hid (show uncr ((toL s).take (k + 1)) = uncr ((toL s).take k) from by rw [HT.out, HUS.out, if_pos h13, List.append_nil])
              clear h13 h10 hn
              go_wp2_with fail
              go_roundw
              case rel => exact ⟨k + 1, by omega, by go_num, by rw [HNX.out]; exact HB.out, HN.out⟩
              case measure => simp [intOf] <;> omega
            · have f2 : (num (s[k + 1]'hn1) != 10) = true := by
                rw [bne, show (num (s[k + 1]'hn1) == 10) = decide ((s[k + 1]'hn1) = 10) from numq _ 10 (by omega), decide_eq_false h10]; rfl
              have HV := Lib.hid (HV1.out k (by rw [HF.out, HS.out, if_pos (.inl ⟨h13, by rw [HBA.out (k + 1) hn1]; intro e; injection e with e; exact h10 e⟩)]))
              clear h13 h10 hn
              go_wp2_with fail
              go_ret3
              exact ⟨by rw [HV.out]; rfl, HB.out.bel⟩
        · have f1 : (num (s[k]'hlt) == 13) = false := by
            rw [show (num (s[k]'hlt) == 13) = decide ((s[k]'hlt) = 13) from numq _ 13 (by omega)]; exact decide_eq_false h13
          have f1b : (num (s[k]'hlt) != 13) = true := by rw [bne, f1]; rfl
          have HNX := Lib.hid (show uncr ((toL s).take (k + 1)) = uncr ((toL s).take k) ++ [s[k]'hlt] from by rw [HT.out, HUS.out, if_neg h13])
          have hown := HB.out.own
          have hsz := HB.out.bel.size
          by_cases h10 : s[k]'hlt = 10
          · have f2 : (num (s[k]'hlt) == 10) = true := by rw [h10]; rfl
            cases k with
            | zero =>
              have HV := Lib.hid (HV1.out 0 (by rw [HF.out, HS.out, if_pos (.inr ⟨h10, rfl⟩)]))
              clear h13 h10 hown hsz
              go_wp2_with fail
              go_ret3
              exact ⟨by rw [HV.out]; rfl, HB.out.bel⟩
            | succ j =>
              have hj : j < s.size := by omega
              have e1 : (((j + 1 : Nat) : Int) == 0) = false := beq_eq_false_iff_ne.2 (by omega)
              have k2 : ((j + 1 : Nat) : Int) - 1 = (j : Int) := by omega
              have k3 : (j : Int) < (s.size : Int) := by omega
              have k4 : (0 : Int) ≤ (j : Int) := by omega
              have HP := Lib.hid (prev_some hj)
              by_cases hp : s[j]'hj = 13
              · have f3 : (num (s[j]'hj) != 13) = false := by rw [hp]; rfl
                have HN := Lib.hid (show fbL false 0 (toL s) = fbL (prevL (toL s) (j + 1 + 1)) (j + 1 + 1) ((toL s).drop (j + 1 + 1)) from by
                  rw [HF.out, HS.out, if_neg (by rintro (⟨e, _⟩ | ⟨_, e⟩); exact h13 e; rw [HP.out, decide_eq_true hp] at e; cases e)])
                clear h13 h10 hp HUS HT HS
                generalize uncr ((toL s).take (j + 1)) = acc at *
                go_wp2_with ((at_builtin; refine wpList_push el_u8 rfl _ _ rfl hown #[u8 (s[j + 1]'hlt)] rfl rfl rfl (by simp [Value.oneCell']) (by omega) (by unfold maxLen; omega) hsz ?_; intro g cap w3 hown3 hg3 hat3))
                have HB3 := Lib.hid (byt_push HB.out hown3 hg3)
                clear hown3 hg3 hat3 hown hsz
                go_roundw
                case rel => exact ⟨j + 1 + 1, by omega, by go_num, by rw [HNX.out]; exact HB3.out, HN.out⟩
                case measure => simp [intOf] <;> omega
              · have f3 : (num (s[j]'hj) != 13) = true := by
                  rw [bne, show (num (s[j]'hj) == 13) = decide ((s[j]'hj) = 13) from numq _ 13 (by omega), decide_eq_false hp]; rfl
                have HV := Lib.hid (HV1.out (j + 1) (by rw [HF.out, HS.out, if_pos (.inr ⟨h10, by rw [HP.out]; exact decide_eq_false hp⟩)]))
                clear h13 h10 hp hown hsz
                go_wp2_with fail
                go_ret3
                exact ⟨by rw [HV.out]; rfl, HB.out.bel⟩
          · have f2 : (num (s[k]'hlt) == 10) = false := by
              rw [show (num (s[k]'hlt) == 10) = decide ((s[k]'hlt) = 10) from numq _ 10 (by omega)]; exact decide_eq_false h10
            have HN := Lib.hid (show fbL false 0 (toL s) = fbL (prevL (toL s) (k + 1)) (k + 1) ((toL s).drop (k + 1)) from by
              rw [HF.out, HS.out, if_neg (by rintro (⟨e, _⟩ | ⟨e, _⟩); exact h13 e; exact h10 e)])
            clear h13 h10 HUS HT HS
            generalize uncr ((toL s).take k) = acc at *
            go_wp2_with ((at_builtin; refine wpList_push el_u8 rfl _ _ rfl hown #[u8 (s[k]'hlt)] rfl rfl rfl (by simp [Value.oneCell']) (by omega) (by unfold maxLen; omega) hsz ?_; intro g cap w3 hown3 hg3 hat3))
            have HB3 := Lib.hid (byt_push HB.out hown3 hg3)
            clear hown3 hg3 hat3 hown hsz
            go_roundw
            case rel => exact ⟨k + 1, by omega, by go_num, by rw [HNX.out]; exact HB3.out, HN.out⟩
            case measure => simp [intOf] <;> omega
      · obtain rfl : k = s.size := by omega
        have hnone : fbL false 0 (toL s) = none := by rw [HF.out, List.drop_eq_nil_of_le (by rw [HL.out]; exact Nat.le_refl _)]; rfl
        have HV := Lib.hid (HV2.out hnone)
        have hall : (toL s).take s.size = toL s := List.take_of_length_le (by rw [HL.out]; exact Nat.le_refl _)
        have hB2 := HB.out
        rw [hall] at hB2 hul
        have HB2 := Lib.hid hB2
        have hcv := conv_byt 9 Tryd.underlying9 hB2.own
        obtain ⟨A, cA, hvA, _⟩ := own_row hB2.own
        subst hvA
        have k1 : (s.size : Int) ≤ (s.size : Int) := by omega
        clear hnone HF HV1 HV2 hall hB2 HB
        generalize uncr (toL s) = acc at *
        by_cases hz : s.size = 0
        · have hE := toList_nil hz
          have HW := Lib.hid (show flF (toL s) = ⟨acc, 0, 0⟩ from by rw [HV.out, last_nil s hz, if_neg (by simp), if_neg (by omega)])
          have hal : (acc.length : Int) ≤ 65536 := by omega
          clear hz
          go_wp2_with fail
          go_ret3
          exact ⟨by rw [HW.out]; rfl, HB2.out.bel⟩
        · have hE := toList_cons hz
          have hp : 0 < s.size := by omega
          have hp1 : s.size - 1 < s.size := by omega
          have HLA := Lib.hid (last_at s hp)
          have k2 : ((s.size : Int) - 1).toNat = s.size - 1 := by omega
          have k3 : (0 : Int) ≤ (s.size : Int) - 1 := by omega
          have k4 : (s.size : Int) - 1 < (s.size : Int) := by omega
          by_cases h10 : s[s.size - 1]'hp1 = 10
          · have f2 : (num (s[s.size - 1]'hp1) != 10) = false := by rw [h10]; rfl
            have HW := Lib.hid (show flF (toL s) = if 65536 < acc.length then ⟨[], 0, 5⟩ else ⟨acc, 0, 0⟩ from by rw [HV.out, HLA.out, decide_eq_true h10]; rfl)
            clear h10 hz
            by_cases hu : 65536 < acc.length
            · have HX := Lib.hid (show flF (toL s) = ⟨[], 0, 5⟩ from by rw [HW.out, if_pos hu])
              have hu' : (65536 : Int) < (acc.length : Int) := by omega
              clear hu
              go_wp2_with fail
              go_ret3
              exact ⟨by rw [HX.out]; rfl, HB2.out.bel⟩
            · have HX := Lib.hid (show flF (toL s) = ⟨acc, 0, 0⟩ from by rw [HW.out, if_neg hu])
              have hu' : (acc.length : Int) ≤ 65536 := by omega
              clear hu
              go_wp2_with fail
              go_ret3
              exact ⟨by rw [HX.out]; rfl, HB2.out.bel⟩
          · have f2 : (num (s[s.size - 1]'hp1) != 10) = true := by
              rw [bne, show (num (s[s.size - 1]'hp1) == 10) = decide ((s[s.size - 1]'hp1) = 10) from numq _ 10 (by omega), decide_eq_false h10]; rfl
            have HW := Lib.hid (show flF (toL s) = ⟨[], s.size, 4⟩ from by rw [HV.out, HLA.out, decide_eq_false h10]; rfl)
            clear h10 hz
            go_wp2_with fail
            go_ret3
            exact ⟨by rw [HW.out]; rfl, HB2.out.bel⟩
end Go.Proofs.YtcohgjdijhogbaaDoor
