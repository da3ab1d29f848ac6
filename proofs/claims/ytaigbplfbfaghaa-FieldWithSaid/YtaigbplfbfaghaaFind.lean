/- Walks over slices.IndexFunc, slices.ContainsFunc at bytes. -/
import Derived.Test.YtaigbplfbfaghaaSkip
import Derived.Test.YtaigbplfbfaghaaMem
import Derived.Test.YtaigbplfbfaghaaFindP
namespace Go.Proofs.Ytaigbplfbfaghaa
set_option linter.unusedSimpArgs false
set_option linter.unusedVariables false
open Go.RowKit

set_option maxHeartbeats 400000 in
theorem sl_indexFunc_byte (f : Nat) (p : Int → Bool) (hf : ClassIs f p) (A : Option Addr) (l : List UInt8) (c : Nat) (w : World) (hl : l.length ≤ maxLen) (hr : Row w A (bytesV l)) :
    Calls Try.prog 72 #[.slice A l.length c, .func (.func f) #[] #[]] w fun e w' => e = .returned (.int .i64 (findI (fun c => p (num c)) l 0)) ∧ w = w' := by
  unfold maxLen at hl
  have he := hf.enters
  go_enter Try.func72, Try.ntmps72
  go_wp2_with fail
  go_loop [8, 5] (fun v _ => ∃ k : Nat, k ≤ l.length ∧ findI (fun c => p (num c)) l 0 = findI (fun c => p (num c)) (l.drop k) k ∧ v = .int .i64 k) (fun v _ => l.length - (intOf v).toNat)
  case atStart => exact ⟨0, by omega, rfl, rfl⟩
  case round =>
    obtain ⟨k, hk, heq, rfl⟩ := hrel
    by_cases hlt : k < l.length
    · obtain ⟨b, off, rfl, hbs, hcell⟩ := hr.at (k := k) (by simpa using hlt)
      have hc := hcell k (u8 l[k]) (by simp [hlt])
      clear hcell
      rw [List.drop_eq_getElem_cons hlt, findI] at heq
      have HQ := Lib.hid heq; clear heq
      by_cases hp : p (num l[k]) = true
      · go_wp2_with (refine (hf.calls _ _).mono ?_; rintro e w' ⟨rfl, rfl⟩)
        go_ret
        exact ⟨ret_int (by rw [HQ.out, if_pos hp]), rfl⟩
      · have hp' : p (num l[k]) = false := by simpa using hp
        clear hp
        go_wp2_with (refine (hf.calls _ _).mono ?_; rintro e w' ⟨rfl, rfl⟩)
        go_round
        case rel => exact ⟨k + 1, by omega, by rw [HQ.out, if_neg (by simp [hp'])], by go_num⟩
        case measure => simp [intOf] <;> omega
    · have hd : l.drop k = [] := List.drop_eq_nil_of_le (by omega)
      rw [hd, findI] at heq
      have HQ := Lib.hid heq; clear heq hd
      go_wp2_with fail
      go_ret
      exact ⟨ret_int (by rw [HQ.out]), rfl⟩

set_option maxHeartbeats 400000 in
theorem sl_containsFunc_byte (f : Nat) (p : Int → Bool) (hf : ClassIs f p) (A : Option Addr) (l : List UInt8) (c : Nat) (w : World) (hl : l.length ≤ maxLen) (hr : Row w A (bytesV l)) :
    Calls Try.prog 38 #[.slice A l.length c, .func (.func f) #[] #[]] w fun e w' => e = .returned (.bool (l.any fun c => p (num c))) ∧ w = w' := by
  go_enter Try.func38, Try.ntmps38
  go_wp2_with (refine (sl_indexFunc_byte f p hf A l c _ hl hr).mono ?_; rintro e w' ⟨rfl, rfl⟩)
  go_ret
  exact ⟨ret_bool (findI_geq _ _ _), rfl⟩

end Go.Proofs.Ytaigbplfbfaghaa
