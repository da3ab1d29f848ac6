/- The walk over the reference's Divide. -/
import Derived.Test.YtcohgjdijhogbaaDivP
import Derived.Test.YtcohgjdijhogbaaPt15
namespace Go.Proofs.Ytcohgjdijhogbaa
set_option linter.unusedSimpArgs false
set_option linter.unusedVariables false
open Go.RowKit

/-- How the reference keeps the last divider. -/
def DivV (o : Option (Nat × Nat)) (a b : Int) : Prop := match o with
  | none => a = -1 ∧ b = 0
  | some x => a = (x.1 : Int) ∧ b = (x.2 : Int)
theorem divider_is2 (x : ByteArray) : (x.toList == [45, 45, 32]) = decide (toL x = [45, 45, 32]) := by
  rw [ByteArray.toList_eq, Bool.eq_iff_iff, beq_iff_eq, decide_eq_true_iff]; rfl
def DivIn (N : Nat) (o : Option (Nat × Nat)) : Prop := ∀ x, o = some x → x.1 ≤ N ∧ x.2 ≤ N
/-- At the head of a round. -/
def DivRel (s : ByteArray) (v4 v5 v6 : Value) : Prop := ∃ (i : Nat) (o : Option (Nat × Nat)) (a b : Int), i ≤ s.size + 1 ∧ v6 = .int .i64 (i : Int) ∧ v4 = .int .i64 a ∧ v5 = .int .i64 b ∧ DivV o a b ∧ DivOn (toL s) i o ∧ DivIn s.size o
set_option maxHeartbeats 4000000 in
set_option maxRecDepth 100000 in
theorem rf_divide (s : ByteArray) (w : World) (hs : s.size ≤ 900000) : Calls Try.prog 22 #[.string s] w fun e w' => e = .returned (.tuple #[.string (ofL (divF (toL s)).1), .string (ofL (divF (toL s)).2)]) ∧ ∃ n, w' = w.drewN n := by
  have HL := Lib.hid (toL_length s)
  have HZ := Lib.hid (DivOn.zero (toL s))
  go_enter Try.func22, Try.ntmps22
  go_wp2_with fail
  go_loop [4, 5, 6] (fun v4 v5 v6 => DivRel s v4 v5 v6) (fun _ _ v6 => s.size + 1 - (intOf v6).toNat)
  case atStart => exact ⟨0, none, -1, 0, by omega, rfl, rfl, rfl, ⟨rfl, rfl⟩, HZ.out, fun x h => by cases h⟩
  case round =>
    obtain ⟨i, o, a, b, hi, rfl, rfl, rfl, hv, ho, hin⟩ := hrel
    have HV := Lib.hid hv; have HO := Lib.hid ho; have HI := Lib.hid hin
    clear hv ho hin HZ
    have i0 : (0 : Int) ≤ (i : Int) := by omega
    by_cases hlt : i < s.size
    · have i1 : (i : Int) < (s.size : Int) := by omega
      have hge := endF_ge (toL s) i
      have hle := endF_le (toL s) i (by rw [HL.out]; omega)
      rw [HL.out] at hle
      have HEND := Lib.hid (fun wx => rf_end s i wx (by omega) (by omega))
      have HN := Lib.hid (HO.out.next (by rw [HL.out]; exact hlt))
      rw [HL.out] at HN
      have HX := Lib.hid (extract_toL s i (endF (toL s) i))
      generalize endF (toL s) i = e at *
      obtain ⟨m, hm⟩ : ∃ m, m = min (e + 1) s.size := ⟨_, rfl⟩
      have hmi : min ((e : Int) + 1) (s.size : Int) = (m : Int) := by omega
      have hml : m ≤ s.size := by omega
      have b1 : (i : Int) ≤ (e : Int) := by omega
      have b2 : (e : Int) ≤ (s.size : Int) := by omega
      rw [← hm] at HN
      clear hm
      by_cases hd : cutL (toL s) i e = [45, 45, 32]
      · have g : ((s.extract i e).toList == [45, 45, 32]) = true := by rw [divider_is2, HX.out]; exact decide_eq_true hd
        rw [if_pos hd] at HN
        clear hd
        go_wp2_with ((go_at_call 31; (with_reducible refine (HEND.out _).mono ?_); rintro e w' ⟨rfl, rfl⟩))
        go_round
        case rel => exact ⟨e + 1, some (i, m), _, _, by omega, by go_num, rfl, rfl, ⟨rfl, rfl⟩, HN.out, fun x hx => by injection hx with hx; subst hx; exact ⟨by simp only; omega, hml⟩⟩
        case measure => simp [intOf] <;> omega
      · have g : ((s.extract i e).toList == [45, 45, 32]) = false := by rw [divider_is2, HX.out]; exact decide_eq_false hd
        rw [if_neg hd] at HN
        clear hd
        go_wp2_with ((go_at_call 31; (with_reducible refine (HEND.out _).mono ?_); rintro e w' ⟨rfl, rfl⟩))
        go_round
        case rel => exact ⟨e + 1, o, a, b, by omega, by go_num, rfl, rfl, HV.out, HN.out, HI.out⟩
        case measure => simp [intOf] <;> omega
    · have i1 : (s.size : Int) ≤ (i : Int) := by omega
      have HD := Lib.hid (HO.out.done (by rw [HL.out]; omega))
      cases o with
      | none =>
        obtain ⟨rfl, rfl⟩ := HV.out
        have HR := Lib.hid (show divF (toL s) = (toL s, []) from HD.out)
        go_wp2_with fail
        go_ret2
        exact ⟨by rw [HR.out, ofL_toL]; rfl, 0, rfl⟩
      | some x =>
        obtain ⟨p, q⟩ := x
        have hpq := HI.out (p, q) rfl
        obtain ⟨ha, hb⟩ := HV.out
        simp only at ha hb hpq
        subst ha
        subst hb
        have HR := Lib.hid (show divF (toL s) = ((toL s).take p, (toL s).drop q) from HD.out)
        have E1 := Lib.hid (show s.extract 0 p = ofL ((toL s).take p) from by rw [extract_ofL, cutL]; simp)
        have E2 := Lib.hid (show s.extract q s.size = ofL ((toL s).drop q) from by rw [← ext_drop, ofL_toL])
        have p0 : (0 : Int) ≤ (p : Int) := by omega
        have p1 : (p : Int) ≤ (s.size : Int) := by omega
        have q0 : (0 : Int) ≤ (q : Int) := by omega
        have q1 : (q : Int) ≤ (s.size : Int) := by omega
        go_upto_region 10 with fail
        go_quiet (fail)
        go_wp2_with fail
        go_ret2
        exact ⟨by rw [HR.out, ← E1.out, ← E2.out]; rfl, nq, rfl⟩
end Go.Proofs.Ytcohgjdijhogbaa
