/- The walks over ToLine and FromLine. -/
import Derived.Test.YtcohgjdijhogbaaDoorLineP
import Derived.Test.YtcohgjdijhogbaaDoorPt5
import Derived.Test.YtcohgjdijhogbaaDoorShelf
import Derived.Test.YtcohgjdijhogbaaDoorPt13
import Derived.Lib.IndexAny
namespace Go.Proofs.YtcohgjdijhogbaaDoor
set_option linter.unusedSimpArgs false
set_option linter.unusedVariables false
open Go.RowKit

theorem has_nl (s : ByteArray) : Lib.hasSuffix s.data.toList (⟨#[10]⟩ : ByteArray).data.toList = decide ((toL s).getLast? = some 10) := by
  show ([10] : List UInt8).isSuffixOf (toL s) = _
  generalize toL s = L
  rw [Bool.eq_iff_iff, List.isSuffixOf_iff_suffix, decide_eq_true_iff]
  constructor
  · rintro ⟨r, rfl⟩; simp
  · intro h
    obtain ⟨r, hr⟩ := List.getLast?_eq_some_iff.1 h
    exact ⟨r, hr.symm⟩
theorem has_cr (s : ByteArray) : decide (0 ≤ Lib.indexByte s.data.toList 13) = (toL s).contains 13 := (Lib.contains_iff_indexByte _ _).symm
theorem last_ok (s : ByteArray) (h : ¬ s.size = 0) : lastOk (toL s) = decide ((toL s).getLast? = some 10) := by
  unfold lastOk
  cases e : (toL s).getLast? with
  | none => exact absurd (by rw [← toL_length, List.getLast?_eq_none_iff.1 e]; rfl) h
  | some c => simp; rw [Bool.eq_iff_iff]; simp
theorem last_nil (s : ByteArray) (h : s.size = 0) : lastOk (toL s) = true := by rw [toL_nil h]; rfl
set_option maxHeartbeats 4000000 in
set_option maxRecDepth 100000 in
theorem art_toLine (s : ByteArray) (w : World) (hsh : w.ShapedOpen Tryd.prog) (hs : s.size ≤ 900000) : Calls Tryd.prog 6 #[.string s] w fun e w' => e = .returned (.tuple #[.string (ofL (tlF (toL s)).1), .int .i64 (tlF (toL s)).2]) ∧ Below w.heap.size w w' := by
  have HL := Lib.hid (toL_length s)
  have HV0 := Lib.hid (show tlF (toL s) = if 65536 < (toL s).length then ([], 5) else if (toL s).contains 13 then ([], 6) else if lastOk (toL s) = false then ([], 4) else (crlf (toL s), 0) from rfl)
  rw [HL.out] at HV0
  have HCR := Lib.hid (has_cr s)
  have HNL := Lib.hid (has_nl s)
  by_cases h1 : 65536 < s.size
  · have HV := Lib.hid (show tlF (toL s) = ([], 5) from by rw [HV0.out, if_pos h1])
    have h1' : (65536 : Int) < (s.size : Int) := by omega
    clear h1
    go_enter Tryd.func6, Tryd.ntmps6
    go_wp2_with fail
    go_ret2
    exact ⟨by rw [HV.out]; rfl, Below.refl _ _⟩
  · have h1' : (s.size : Int) ≤ 65536 := by omega
    rcases h2 : (toL s).contains 13 with _ | _
    · rw [h2] at HCR
      rcases h3 : lastOk (toL s) with _ | _
      · have HV := Lib.hid (show tlF (toL s) = ([], 4) from by rw [HV0.out, if_neg h1, h2, h3]; rfl)
        have hz : ¬ s.size = 0 := fun e => by rw [last_nil s e] at h3; cases h3
        have hE := toList_cons hz
        rw [← last_ok s hz, h3] at HNL
        clear h1 h2 h3 hz
        go_enter Tryd.func6, Tryd.ntmps6
        go_wp2_with (first | (go_at_call 11; (with_reducible refine (Tryd.strings_Contains_one s 13 _).mono ?_); rintro e w' ⟨rfl, rfl⟩; rw [HCR.out]) | (go_at_call 12; (with_reducible refine (Tryd.strings_HasSuffix s _ _ (by omega)).mono ?_); rintro e w' ⟨rfl, rfl⟩; rw [HNL.out]))
        go_ret2
        exact ⟨by rw [HV.out]; rfl, Below.refl _ _⟩
      · have HV := Lib.hid (show tlF (toL s) = (crlf (toL s), 0) from by rw [HV0.out, if_neg h1, h2, h3]; rfl)
        have HRP := Lib.hid (fun wx (hx : wx.ShapedOpen Tryd.prog) => Tryd.strings_ReplaceAll_shaped s ⟨#[10]⟩ ⟨#[13, 10]⟩ wx hx (by omega) (by decide) (by
          have h9 := Lib.count_le s.data.toList [10]
          have h8 : s.data.toList.length = s.size := toL_length s
          have h7 : Lib.countB s ⟨#[10]⟩ = Lib.count s.data.toList [10] := rfl
          rw [h7, show (⟨#[13, 10]⟩ : ByteArray).size = 2 from rfl]; omega))
        have HRE := Lib.hid (show (⟨(Lib.replaceAll s.data.toList (⟨#[10]⟩ : ByteArray).data.toList (⟨#[13, 10]⟩ : ByteArray).data.toList).toArray⟩ : ByteArray) = ofL (crlf (toL s)) from by rw [← rep_crlf]; rfl)
        rw [HRE.out] at HRP
        have HSH := Lib.hid hsh
        by_cases hz : s.size = 0
        · have hE := toList_nil hz
          clear h1 h2 h3 hz hsh
          go_enter Tryd.func6, Tryd.ntmps6
          go_wp2_with (first | (go_at_call 11; (with_reducible refine (Tryd.strings_Contains_one s 13 _).mono ?_); rintro e w' ⟨rfl, rfl⟩; rw [HCR.out]) | (go_at_call 13; (with_reducible refine (HRP.out _ HSH.out).mono ?_); rintro e w1 ⟨rfl, hb1⟩))
          go_ret2
          exact ⟨by rw [HV.out]; rfl, hb1⟩
        · have hE := toList_cons hz
          rw [← last_ok s hz, h3] at HNL
          clear h1 h2 h3 hz hsh
          go_enter Tryd.func6, Tryd.ntmps6
          go_wp2_with (first | (go_at_call 11; (with_reducible refine (Tryd.strings_Contains_one s 13 _).mono ?_); rintro e w' ⟨rfl, rfl⟩; rw [HCR.out]) | (go_at_call 12; (with_reducible refine (Tryd.strings_HasSuffix s _ _ (by omega)).mono ?_); rintro e w' ⟨rfl, rfl⟩; rw [HNL.out]) | (go_at_call 13; (with_reducible refine (HRP.out _ HSH.out).mono ?_); rintro e w1 ⟨rfl, hb1⟩))
          go_ret2
          exact ⟨by rw [HV.out]; rfl, hb1⟩
    · have HV := Lib.hid (show tlF (toL s) = ([], 6) from by rw [HV0.out, if_neg h1, h2]; rfl)
      rw [h2] at HCR
      clear h1 h2
      go_enter Tryd.func6, Tryd.ntmps6
      go_wp2_with ((go_at_call 11; (with_reducible refine (Tryd.strings_Contains_one s 13 _).mono ?_); rintro e w' ⟨rfl, rfl⟩; rw [HCR.out]))
      go_ret2
      exact ⟨by rw [HV.out]; rfl, Below.refl _ _⟩
end Go.Proofs.YtcohgjdijhogbaaDoor
