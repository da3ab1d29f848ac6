/- Walks over package ascii: skip. -/
import Derived.Test.YtaigbplfbfaghaaAsc
namespace Go.Proofs.Ytaigbplfbfaghaa
set_option linter.unusedSimpArgs false
set_option linter.unusedVariables false
open Go.RowKit

/-- A function value without captures that answers p of a byte and changes nothing. -/
structure ClassIs (f : Nat) (p : Int → Bool) : Prop where
  enters : ∀ args w, (callFunc f args).run Try.prog w = .ok (.enter f args) w
  calls : ∀ (c : Int) (w : World), Calls Try.prog f #[.int .u8 c] w fun e w' => e = .returned (.bool (p c)) ∧ w = w'

set_option maxHeartbeats 400000 in
theorem asc_skip (f : Nat) (p : Int → Bool) (hf : ClassIs f p) (s : ByteArray) (i : Nat) (w : World) (hs : s.size ≤ maxLen) (hi : i ≤ s.size) :
    Calls Try.prog 74 #[.string s, .int .i64 i, .func (.func f) #[] #[]] w fun e w' => e = .returned (.int .i64 (skipFrom p (toL s) i)) ∧ w = w' := by
  unfold maxLen at hs
  have he := hf.enters
  go_enter Try.func74, Try.ntmps74
  go_wp2_with fail
  go_loop [1] (fun v => ∃ k : Nat, k ≤ s.size ∧ skipFrom p (toL s) i = skipFrom p (toL s) k ∧ v = .int .i64 k) (fun v => s.size - (intOf v).toNat)
  case atStart => exact ⟨i, hi, rfl, rfl⟩
  case round =>
    obtain ⟨k, hk, heq, rfl⟩ := hrel
    have HQ := Lib.hid heq; clear heq
    by_cases hlt : k < s.size
    · by_cases hp : p (num s[k]) = true
      · have H2 := Lib.hid (skipFrom_step p (toL s) k (by rw [toL_length]; exact hlt) (by rw [toL_getElem _ _ hlt]; exact hp))
        go_wp2_with (refine (hf.calls _ _).mono ?_; rintro e w' ⟨rfl, rfl⟩)
        go_round
        case rel => exact ⟨k + 1, by omega, HQ.out.trans H2.out, by go_num⟩
        case measure => simp [intOf] <;> omega
      · have hp' : p (num s[k]) = false := by simpa using hp
        have H2 := Lib.hid (skipFrom_stop p (toL s) k (by rw [toL_length]; exact hlt) (by rw [toL_getElem _ _ hlt]; exact hp'))
        clear hp
        go_wp2_with (refine (hf.calls _ _).mono ?_; rintro e w' ⟨rfl, rfl⟩)
        go_ret
        exact ⟨ret_int (by rw [HQ.out, H2.out]), rfl⟩
    · have H2 := Lib.hid (skipFrom_end p (toL s) k (by rw [toL_length]; omega))
      go_wp2_with fail
      go_ret
      exact ⟨ret_int (by rw [HQ.out, H2.out]), rfl⟩

end Go.Proofs.Ytaigbplfbfaghaa
