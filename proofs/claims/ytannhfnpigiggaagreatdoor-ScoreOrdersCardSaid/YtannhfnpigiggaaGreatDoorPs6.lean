/- Lemmas and walks, part 6. -/
import Derived.Test.YtannhfnpigiggaaGreatDoorPs5
import Derived.Deep.DeepCutAuto
import Derived.Deep.DeepFit
import Derived.Outline
namespace Go.Proofs.YtannhfnpigiggaaGreatDoor
set_option linter.unusedSimpArgs false
set_option linter.unusedVariables false
open Go.RowKit

theorem foldU_snoc (v : Nat) (l : List UInt8) (c : UInt8) : foldU v (l ++ [c]) = 64 * foldU v l + (c.toNat - 128) := by simp [foldU]
/-- What the loop has after k bytes. -/
def valTo (L : List UInt8) (k : Nat) : Nat := valU (L.take k)
theorem valTo_succ {L : List UInt8} {k : Nat} (hk1 : 1 ≤ k) (hk : k < L.length) : valTo L (k + 1) = 64 * valTo L k + (L[k].toNat - 128) := by
  cases L with
  | nil => simp at hk
  | cons f r =>
    cases k with
    | zero => omega
    | succ j =>
      have hj : j < r.length := by simpa using hk
      unfold valTo
      rw [List.take_succ_cons, List.take_succ_cons, valU, valU, List.take_succ_eq_append_getElem hj, foldU_snoc]
      simp
/-- An encoding: its first byte, and the bytes that continue. -/
structure Enc (s : ByteArray) : Prop where
  pos : 0 < s.size
  len : lenU (s[0]'pos) = s.size
  cont : ∀ (k : Nat) (h : k < s.size), 1 ≤ k → 128 ≤ (s[k]'h).toNat ∧ (s[k]'h).toNat ≤ 191
theorem valTo_one {s : ByteArray} (h : 0 < s.size) : valTo (toL s) 1 = leadU (s[0]'h) := by
  unfold valTo; rw [toL_consB h]; rfl
theorem valTo_lt {s : ByteArray} (h : Enc s) : ∀ k, 1 ≤ k → k ≤ s.size → valTo (toL s) k < 32 * 64 ^ (k - 1) ∨ s.size = 1 := by
  intro k hk1 hk
  by_cases h1 : s.size = 1
  · exact .inr h1
  left
  induction k with
  | zero => omega
  | succ j ih =>
    by_cases hj : j = 0
    · subst hj
      rw [valTo_one h.pos]
      obtain ⟨u1, u2, u3, u4⟩ := leadU_of (a := s[0]'h.pos)
      have := h.len
      rcases first_cases (s[0]'h.pos) with ⟨e, _⟩ | ⟨e, g⟩ | ⟨e, g1, g2⟩ | ⟨e, g1, g2⟩ | ⟨e, g1, g2⟩
      · omega
      · omega
      · rw [u2 (by omega) g2]; simp; omega
      · rw [u3 g1 g2]; simp; omega
      · rw [u4 g1]; simp; omega
    · have ih' := ih (by omega) (by omega)
      have hjs : j < s.size := by omega
      have hjl : j < (toL s).length := by rw [toL_length]; exact hjs
      rw [valTo_succ (by omega) hjl, toL_getElem s j hjs]
      have hc := h.cont j hjs (by omega)
      rw [show j + 1 - 1 = (j - 1) + 1 by omega, Nat.pow_succ]
      generalize 64 ^ (j - 1) = P at *
      omega
theorem and_mask (a : UInt8) (j : Nat) (m : Int) (hj : j ≤ 31) (hm : m = 2 ^ j - 1) : bits .and .i32 (num a) m = num a % 2 ^ j := by
  have := num_lt a
  subst hm
  exact bits_mask .i32 31 (by decide) wraps_i32 j hj (num a) (by omega) (by omega)
set_option maxHeartbeats 4000000 in
set_option maxRecDepth 100000 in
theorem u8_value (s : ByteArray) (w : World) (he : Enc s) :
    Calls Tryz.prog 166 #[.string s] w fun e w' => e = .returned (.int .i32 (valU (toL s))) ∧ w = w' := by
  have hp := he.pos
  have hl := he.len
  have hl4 := lenU_le (s[0]'hp)
  have hs4 : s.size ≤ 4 := by omega
  have p0 : (0 : Int) < (s.size : Int) := by omega
  have HEND := Lib.hid (show valTo (toL s) s.size = valU (toL s) from by unfold valTo; rw [List.take_of_length_le (by rw [toL_length]; omega)])
  have HV1 := Lib.hid (valTo_one hp)
  have HLT := Lib.hid (valTo_lt he)
  by_cases h1 : s.size = 1
  · have i1 : (s.size : Int) ≤ 1 := by omega
    have HS := Lib.hid h1
    have hv : valU (toL s) = (s[0]'hp).toNat := by
      rw [← HEND.out, h1, HV1.out]
      have : lenU (s[0]'hp) = 1 := by omega
      rcases first_cases (s[0]'hp) with ⟨e, _⟩ | ⟨e, g⟩ | ⟨e, g1, g2⟩ | ⟨e, g1, g2⟩ | ⟨e, g1, g2⟩
      · omega
      · exact (leadU_of (a := s[0]'hp)).1 g
      · omega
      · omega
      · omega
    have HV2 := Lib.hid (show num (s[0]'hp) = ((valU (toL s) : Nat) : Int) from by rw [hv])
    have e32 : IntKind.i32.wrap (num (s[0]'hp)) = num (s[0]'hp) := by have := num_lt (s[0]'hp); exact IntWalk.i32_in _ (by omega)
    clear hv h1 hl hl4 hs4
    go_enter Tryz.func166, Tryz.ntmps166
    go_wp2_with fail
    go_loop [3, 4] (fun v3 v4 => v3 = .int .i32 (num (s[0]'hp)) ∧ v4 = .int .i64 1) (fun _ _ => 0)
    case atStart => exact ⟨rfl, rfl⟩
    case round =>
      obtain ⟨rfl, rfl⟩ := hrel
      go_wp2_with fail
      go_ret
      exact ⟨ret_int HV2.out, rfl⟩
  · have hsz : s.size = 2 ∨ s.size = 3 ∨ s.size = 4 := by omega
    have hn1 : (1 : Int) < (s.size : Int) := by omega
    obtain ⟨u1, u2, u3, u4⟩ := leadU_of (a := s[0]'hp)
    have wA : IntKind.i32.wrap (num (s[0]'hp)) = num (s[0]'hp) := by have := num_lt (s[0]'hp); exact IntWalk.i32_in _ (by omega)
    have hmsk : ∃ m : Int, m = (127 : Int).fdiv (2 ^ s.size) ∧ bits .and .i32 (num (s[0]'hp)) m = (valTo (toL s) 1 : Int) := by
      rcases hsz with hsz | hsz | hsz
      · refine ⟨31, by rw [hsz]; rfl, ?_⟩
        rw [and_mask _ 5 31 (by omega) (by decide), HV1.out]
        rcases first_cases (s[0]'hp) with ⟨e, _⟩ | ⟨e, g⟩ | ⟨e, g1, g2⟩ | ⟨e, g1, g2⟩ | ⟨e, g1, g2⟩
        · omega
        · omega
        · rw [u2 (by omega) g2]; simp only [num]; omega
        · omega
        · omega
      · refine ⟨15, by rw [hsz]; rfl, ?_⟩
        rw [and_mask _ 4 15 (by omega) (by decide), HV1.out]
        rcases first_cases (s[0]'hp) with ⟨e, _⟩ | ⟨e, g⟩ | ⟨e, g1, g2⟩ | ⟨e, g1, g2⟩ | ⟨e, g1, g2⟩
        · omega
        · omega
        · omega
        · rw [u3 g1 g2]; simp only [num]; omega
        · omega
      · refine ⟨7, by rw [hsz]; rfl, ?_⟩
        rw [and_mask _ 3 7 (by omega) (by decide), HV1.out]
        rcases first_cases (s[0]'hp) with ⟨e, _⟩ | ⟨e, g⟩ | ⟨e, g1, g2⟩ | ⟨e, g1, g2⟩ | ⟨e, g1, g2⟩
        · omega
        · omega
        · omega
        · omega
        · rw [u4 g1]; simp only [num]; omega
    have HMSK := Lib.hid hmsk
    have HSUC := Lib.hid (fun k (h1 : 1 ≤ k) (hk : k < s.size) => show valTo (toL s) (k + 1) = 64 * valTo (toL s) k + ((s[k]'hk).toNat - 128) from by
      rw [valTo_succ h1 (by rw [toL_length]; exact hk), toL_getElem s k hk])
    clear u1 u2 u3 u4 hmsk h1 hl hl4
    rcases hsz with hsz | hsz | hsz
    · have hm : bits .and .i32 (num (s[0]'hp)) 31 = (valTo (toL s) 1 : Int) := by
        obtain ⟨m, e1, e2⟩ := HMSK.out
        rw [← e2, e1, hsz]; rfl
      go_enter Tryz.func166, Tryz.ntmps166
      go_upto_region 4 with fail
      clear wA hm
      go_wp2_with fail
      go_loop [3, 4] (fun v3 v4 => ∃ k : Nat, 1 ≤ k ∧ k ≤ 2 ∧ v4 = .int .i64 (k : Int) ∧ v3 = .int .i32 (valTo (toL s) k : Int)) (fun _ v4 => 2 - (intOf v4).toNat)
      case atStart => exact ⟨1, by omega, by omega, rfl, rfl⟩
      case round =>
        obtain ⟨k, hk1, hk, rfl, rfl⟩ := hrel
        by_cases hlt : k < 2
        · have k0 : (0 : Int) ≤ (k : Int) := by omega
          have k1 : (k : Int) < 2 := by omega
          have hks : k < s.size := by omega
          have k2 : (k : Int) < (s.size : Int) := by omega
          have HS := Lib.hid (HSUC.out k hk1 hks)
          obtain ⟨c1, c2⟩ := he.cont k hks hk1
          have hb := HLT.out k hk1 (by omega)
          have hv : valTo (toL s) k < 8388608 := by
            rcases hb with hb | hb
            · have : (64 : Nat) ^ (k - 1) ≤ 64 ^ 2 := Nat.pow_le_pow_right (by omega) (by omega)
              omega
            · omega
          generalize valTo (toL s) k = v at *
          have e1 : bits .and .u8 (num (s[k]'hks)) 63 = num (s[k]'hks) - 128 := by
            rw [u8_and63 _ (by simp only [num]; omega) (num_lt _).2]; simp only [num]; omega
          have e2 : IntKind.i32.wrap (num (s[k]'hks) - 128) = num (s[k]'hks) - 128 := IntWalk.i32_in _ (by simp only [num]; omega)
          have e3 : IntKind.i32.wrap ((v : Int) * 64) = (v : Int) * 64 := IntWalk.i32_in _ (by omega)
          have e4 : bits .or .i32 ((v : Int) * 64) (num (s[k]'hks) - 128) = (v : Int) * 64 + (num (s[k]'hks) - 128) := i32_or6 _ _ (by omega) (by omega) (by omega) (by simp only [num]; omega) (by simp only [num]; omega)
          have HFIN := Lib.hid (show (v : Int) * 64 + (num (s[k]'hks) - 128) = ((valTo (toL s) (k + 1) : Nat) : Int) from by rw [HS.out]; simp only [num]; omega)
          clear hb hv c1 c2
          go_wp2_with fail
          go_round
          case rel => exact ⟨k + 1, by omega, by omega, by go_num, by rw [← HFIN.out]⟩
          case measure => simp [intOf] <;> omega
        · obtain rfl : k = 2 := by omega
          have HR := Lib.hid (show (valTo (toL s) 2 : Int) = ((valU (toL s) : Nat) : Int) from by rw [← HEND.out, hsz])
          go_wp2_with fail
          go_ret
          exact ⟨ret_int HR.out, rfl⟩
    · have hm : bits .and .i32 (num (s[0]'hp)) 15 = (valTo (toL s) 1 : Int) := by
        obtain ⟨m, e1, e2⟩ := HMSK.out
        rw [← e2, e1, hsz]; rfl
      go_enter Tryz.func166, Tryz.ntmps166
      go_upto_region 4 with fail
      clear wA hm
      go_wp2_with fail
      go_loop [3, 4] (fun v3 v4 => ∃ k : Nat, 1 ≤ k ∧ k ≤ 3 ∧ v4 = .int .i64 (k : Int) ∧ v3 = .int .i32 (valTo (toL s) k : Int)) (fun _ v4 => 3 - (intOf v4).toNat)
      case atStart => exact ⟨1, by omega, by omega, rfl, rfl⟩
      case round =>
        obtain ⟨k, hk1, hk, rfl, rfl⟩ := hrel
        by_cases hlt : k < 3
        · have k0 : (0 : Int) ≤ (k : Int) := by omega
          have k1 : (k : Int) < 3 := by omega
          have hks : k < s.size := by omega
          have k2 : (k : Int) < (s.size : Int) := by omega
          have HS := Lib.hid (HSUC.out k hk1 hks)
          obtain ⟨c1, c2⟩ := he.cont k hks hk1
          have hb := HLT.out k hk1 (by omega)
          have hv : valTo (toL s) k < 8388608 := by
            rcases hb with hb | hb
            · have : (64 : Nat) ^ (k - 1) ≤ 64 ^ 2 := Nat.pow_le_pow_right (by omega) (by omega)
              omega
            · omega
          generalize valTo (toL s) k = v at *
          have e1 : bits .and .u8 (num (s[k]'hks)) 63 = num (s[k]'hks) - 128 := by
            rw [u8_and63 _ (by simp only [num]; omega) (num_lt _).2]; simp only [num]; omega
          have e2 : IntKind.i32.wrap (num (s[k]'hks) - 128) = num (s[k]'hks) - 128 := IntWalk.i32_in _ (by simp only [num]; omega)
          have e3 : IntKind.i32.wrap ((v : Int) * 64) = (v : Int) * 64 := IntWalk.i32_in _ (by omega)
          have e4 : bits .or .i32 ((v : Int) * 64) (num (s[k]'hks) - 128) = (v : Int) * 64 + (num (s[k]'hks) - 128) := i32_or6 _ _ (by omega) (by omega) (by omega) (by simp only [num]; omega) (by simp only [num]; omega)
          have HFIN := Lib.hid (show (v : Int) * 64 + (num (s[k]'hks) - 128) = ((valTo (toL s) (k + 1) : Nat) : Int) from by rw [HS.out]; simp only [num]; omega)
          clear hb hv c1 c2
          go_wp2_with fail
          go_round
          case rel => exact ⟨k + 1, by omega, by omega, by go_num, by rw [← HFIN.out]⟩
          case measure => simp [intOf] <;> omega
        · obtain rfl : k = 3 := by omega
          have HR := Lib.hid (show (valTo (toL s) 3 : Int) = ((valU (toL s) : Nat) : Int) from by rw [← HEND.out, hsz])
          go_wp2_with fail
          go_ret
          exact ⟨ret_int HR.out, rfl⟩
    · have hm : bits .and .i32 (num (s[0]'hp)) 7 = (valTo (toL s) 1 : Int) := by
        obtain ⟨m, e1, e2⟩ := HMSK.out
        rw [← e2, e1, hsz]; rfl
      go_enter Tryz.func166, Tryz.ntmps166
      go_upto_region 4 with fail
      clear wA hm
      go_wp2_with fail
      go_loop [3, 4] (fun v3 v4 => ∃ k : Nat, 1 ≤ k ∧ k ≤ 4 ∧ v4 = .int .i64 (k : Int) ∧ v3 = .int .i32 (valTo (toL s) k : Int)) (fun _ v4 => 4 - (intOf v4).toNat)
      case atStart => exact ⟨1, by omega, by omega, rfl, rfl⟩
      case round =>
        obtain ⟨k, hk1, hk, rfl, rfl⟩ := hrel
        by_cases hlt : k < 4
        · have k0 : (0 : Int) ≤ (k : Int) := by omega
          have k1 : (k : Int) < 4 := by omega
          have hks : k < s.size := by omega
          have k2 : (k : Int) < (s.size : Int) := by omega
          have HS := Lib.hid (HSUC.out k hk1 hks)
          obtain ⟨c1, c2⟩ := he.cont k hks hk1
          have hb := HLT.out k hk1 (by omega)
          have hv : valTo (toL s) k < 8388608 := by
            rcases hb with hb | hb
            · have : (64 : Nat) ^ (k - 1) ≤ 64 ^ 2 := Nat.pow_le_pow_right (by omega) (by omega)
              omega
            · omega
          generalize valTo (toL s) k = v at *
          have e1 : bits .and .u8 (num (s[k]'hks)) 63 = num (s[k]'hks) - 128 := by
            rw [u8_and63 _ (by simp only [num]; omega) (num_lt _).2]; simp only [num]; omega
          have e2 : IntKind.i32.wrap (num (s[k]'hks) - 128) = num (s[k]'hks) - 128 := IntWalk.i32_in _ (by simp only [num]; omega)
          have e3 : IntKind.i32.wrap ((v : Int) * 64) = (v : Int) * 64 := IntWalk.i32_in _ (by omega)
          have e4 : bits .or .i32 ((v : Int) * 64) (num (s[k]'hks) - 128) = (v : Int) * 64 + (num (s[k]'hks) - 128) := i32_or6 _ _ (by omega) (by omega) (by omega) (by simp only [num]; omega) (by simp only [num]; omega)
          have HFIN := Lib.hid (show (v : Int) * 64 + (num (s[k]'hks) - 128) = ((valTo (toL s) (k + 1) : Nat) : Int) from by rw [HS.out]; simp only [num]; omega)
          clear hb hv c1 c2
          go_wp2_with fail
          go_round
          case rel => exact ⟨k + 1, by omega, by omega, by go_num, by rw [← HFIN.out]⟩
          case measure => simp [intOf] <;> omega
        · obtain rfl : k = 4 := by omega
          have HR := Lib.hid (show (valTo (toL s) 4 : Int) = ((valU (toL s) : Nat) : Int) from by rw [← HEND.out, hsz])
          go_wp2_with fail
          go_ret
          exact ⟨ret_int HR.out, rfl⟩
end Go.Proofs.YtannhfnpigiggaaGreatDoor

namespace Go.Proofs.YtannhfnpigiggaaGreatDoor
set_option linter.unusedSimpArgs false
set_option linter.unusedVariables false
open Go.RowKit

theorem run_all (f : UInt8) (size : Nat) : ∀ (l : List UInt8) (i j : Nat), j < runU f size i l → ∃ c, l[j]? = some c ∧ contU f (i + j) c = true
  | [], i, j, h => by simp [runU] at h
  | c :: r, i, j, h => by
    rw [runU] at h
    split at h
    · rename_i hc
      cases j with
      | zero => exact ⟨c, rfl, hc.2⟩
      | succ j =>
        obtain ⟨d, h1, h2⟩ := run_all f size r (i + 1) j (by omega)
        exact ⟨d, by simpa using h1, by rw [show i + (j + 1) = i + 1 + j by omega]; exact h2⟩
    · omega
theorem cont_range {f c : UInt8} {i : Nat} (h : contU f i c = true) : 128 ≤ c.toNat ∧ c.toNat ≤ 191 := by
  by_cases h1 : i = 1
  · subst h1; have := cont1_range h; exact ⟨this.1, this.2.1⟩
  · rw [cont_rest h1] at h; simpa using h
theorem ext_get (s : ByteArray) (n k : Nat) (hk : k < (s.extract 0 n).size) (hk2 : k < s.size) (hn : n ≤ s.size) : (s.extract 0 n)[k]'hk = s[k]'hk2 := by
  have h1 := toL_getElem (s.extract 0 n) k hk
  have h2 := toL_getElem s k hk2
  rw [← h1, ← h2]
  simp only [extract_toL, cutL, List.drop_zero, List.getElem_take]
theorem enc_take {s : ByteArray} (h : wholeU (toL s) = true) : Enc (s.extract 0 (measU (toL s))) ∧ measU (toL s) ≤ s.size ∧ 1 ≤ measU (toL s) := by
  have hp : 0 < s.size := by
    rcases Nat.eq_zero_or_pos s.size with h0 | h0
    · rw [List.eq_nil_of_length_eq_zero ((toL_length s).trans h0)] at h; cases h
    · exact h0
  have hc := toL_consB hp
  have hw := h
  rw [hc, wholeU, ← hc] at hw
  simp only [decide_eq_true_eq] at hw
  obtain ⟨hw1, hw2⟩ := hw
  have hm := measU_le (toL s)
  rw [toL_length] at hm
  have hsz : (s.extract 0 (measU (toL s))).size = measU (toL s) := by rw [extract_size _ _ _ hm.1]; omega
  have hM := measU_cons (s[0]'hp) ((toL s).drop 1) hw2
  rw [← hc] at hM
  refine ⟨⟨by omega, ?_, fun k hk hk1 => ?_⟩, hm.1, by omega⟩
  · rw [ext_get s _ 0 (by omega) hp hm.1, hsz]; omega
  · have hks : k < s.size := by omega
    rw [ext_get s _ k hk hks hm.1]
    obtain ⟨c, h1, h2⟩ := run_all (s[0]'hp) (lenU (s[0]'hp)) ((toL s).drop 1) 1 (k - 1) (by omega)
    rw [List.getElem?_drop, show 1 + (k - 1) = k by omega, byteAt s k hks] at h1
    injection h1 with h1
    rw [h1]; exact cont_range h2
theorem decU_parts (L : List UInt8) (h : L ≠ []) : (wholeU L = true → decU L = (valU (L.take (measU L)), measU L, 0)) ∧ (wholeU L = false → measU L = 0 → decU L = (0, 0, 6)) ∧ (wholeU L = false → measU L ≠ 0 → measU L = L.length → decU L = (0, 0, 23)) ∧ (wholeU L = false → measU L ≠ 0 → measU L ≠ L.length → decU L = (0, 0, 3)) := by
  cases L with
  | nil => exact absurd rfl h
  | cons f r =>
    unfold wholeU decU
    simp only [decide_eq_true_eq, decide_eq_false_iff_not]
    exact ⟨fun h1 => by rw [if_pos h1], fun h1 h2 => by rw [if_neg h1, if_pos h2], fun h1 h2 h3 => by rw [if_neg h1, if_neg h2, if_pos h3], fun h1 h2 h3 => by rw [if_neg h1, if_neg h2, if_neg h3]⟩
set_option maxHeartbeats 4000000 in
set_option maxRecDepth 100000 in
theorem u8_decode (s : ByteArray) (w : World) (hs : s.size ≤ 100000000) :
    Calls Tryz.prog 152 #[.string s] w fun e w' => e = .returned (.tuple #[.int .i32 ((decU (toL s)).1 : Nat), .int .i64 ((decU (toL s)).2.1 : Nat), .int .i64 (decU (toL s)).2.2]) ∧ Drew w w' := by
  by_cases h0 : s.size = 0
  · have hE : s = ⟨#[]⟩ := by
      apply toL_inj; rw [List.eq_nil_of_length_eq_zero ((toL_length s).trans h0)]; rfl
    subst hE
    go_enter Tryz.func152, Tryz.ntmps152
    go_wp2_with fail
    go_ret3
    exact ⟨rfl, Drew.refl _⟩
  have hE : s.toList.isEmpty = false := toList_cons h0
  have hne : toL s ≠ [] := fun h => h0 (by rw [← toL_length, h]; rfl)
  obtain ⟨d1, d2, d3, d4⟩ := decU_parts (toL s) hne
  rw [toL_length] at d3 d4
  have hm := measU_le (toL s)
  rw [toL_length] at hm
  have HM := Lib.hid (u8_measure s w hs)
  rcases hw : wholeU (toL s) with _ | _
  · rw [hw] at HM
    rcases Nat.eq_zero_or_pos (measU (toL s)) with hz | hz
    · have HD := Lib.hid (d2 hw hz)
      rw [hz] at HM
      clear d1 d2 d3 d4 hw hz hm hne h0
      go_enter Tryz.func152, Tryz.ntmps152
      go_wp2_with fail
      (with_reducible refine HM.out.mono ?_)
      rintro e w1 ⟨rfl, hd⟩
      go_wp2_with fail
      go_ret3
      exact ⟨by rw [HD.out]; rfl, hd⟩
    · have z0 : ((measU (toL s) : Int) == 0) = false := beq_eq_false_iff_ne.2 (by omega)
      by_cases hl : measU (toL s) = s.size
      · have HD := Lib.hid (d3 hw (by omega) hl)
        have z1 : ((measU (toL s) : Int) == (s.size : Int)) = true := by rw [beq_iff_eq]; omega
        clear d1 d2 d3 d4 hw hm hne h0 hl
        generalize measU (toL s) = m at *
        go_enter Tryz.func152, Tryz.ntmps152
        go_wp2_with fail
        (with_reducible refine HM.out.mono ?_)
        rintro e w1 ⟨rfl, hd⟩
        go_wp2_with fail
        go_ret3
        exact ⟨by rw [HD.out]; rfl, hd⟩
      · have HD := Lib.hid (d4 hw (by omega) hl)
        have z1 : ((measU (toL s) : Int) == (s.size : Int)) = false := beq_eq_false_iff_ne.2 (by omega)
        clear d1 d2 d3 d4 hw hm hne h0 hl
        generalize measU (toL s) = m at *
        go_enter Tryz.func152, Tryz.ntmps152
        go_wp2_with fail
        (with_reducible refine HM.out.mono ?_)
        rintro e w1 ⟨rfl, hd⟩
        go_wp2_with fail
        go_ret3
        exact ⟨by rw [HD.out]; rfl, hd⟩
  · obtain ⟨he, hms, hm1⟩ := enc_take hw
    have HD := Lib.hid (d1 hw)
    have HV := Lib.hid (fun wx => u8_value (s.extract 0 (measU (toL s))) wx he)
    rw [hw] at HM
    have HT := Lib.hid (show toL (s.extract 0 (measU (toL s))) = (toL s).take (measU (toL s)) from by rw [extract_toL, cutL]; simp)
    rw [HT.out] at HV
    have m0 : (0 : Int) ≤ (measU (toL s) : Int) := by omega
    have m1 : (measU (toL s) : Int) ≤ (s.size : Int) := by omega
    clear d1 d2 d3 d4 hw hm hne h0 he HT
    obtain ⟨m, hmm⟩ : ∃ m, m = measU (toL s) := ⟨_, rfl⟩
    rw [← hmm] at HM HD HV hms hm1 m0 m1
    clear hmm
    go_enter Tryz.func152, Tryz.ntmps152
    go_wp2_with fail
    (with_reducible refine HM.out.mono ?_)
    rintro e w1 ⟨rfl, hd⟩
    go_wp2_with fail
    (with_reducible refine (HV.out _).mono ?_)
    rintro e w2 ⟨rfl, rfl⟩
    go_wp2_with fail
    go_ret3
    exact ⟨by rw [HD.out]; rfl, hd⟩
/-- All code points, without fuel. -/
def allF (l : List UInt8) (i : Nat) : List (Nat × Nat) × Option (Nat × Int) := allU (l.length + 1) l i
theorem allU_fuel : ∀ (n m : Nat) (l : List UInt8) (i : Nat), l.length < n → l.length < m → allU n l i = allU m l i
  | 0, _, _, _, h, _ => by omega
  | _, 0, _, _, _, h => by omega
  | n + 1, m + 1, [], i, _, _ => by simp [allU]
  | n + 1, m + 1, c :: r, i, h1, h2 => by
    rw [allU, allU]
    by_cases h : (decU (c :: r)).2.2 ≠ 0
    · rw [if_pos h, if_pos h]
    · rw [if_neg h, if_neg h]
      have hk := decU_ok (l := c :: r) (by omega)
      have hl : ((c :: r).drop (decU (c :: r)).2.1).length < (c :: r).length := by rw [List.length_drop]; simp at hk ⊢; omega
      rw [allU_fuel n m _ _ (by omega) (by omega)]
theorem allF_nil (i : Nat) : allF [] i = ([], none) := rfl
theorem allF_err {l : List UInt8} (h0 : l ≠ []) (i : Nat) (h : (decU l).2.2 ≠ 0) : allF l i = ([], some (i, (decU l).2.2)) := by
  cases l with
  | nil => exact absurd rfl h0
  | cons c r => unfold allF; rw [allU, if_pos h]
theorem allF_ok {l : List UInt8} (h0 : l ≠ []) (i : Nat) (h : (decU l).2.2 = 0) : allF l i = ((i, (decU l).1) :: (allF (l.drop (decU l).2.1) (i + (decU l).2.1)).1, (allF (l.drop (decU l).2.1) (i + (decU l).2.1)).2) := by
  cases l with
  | nil => exact absurd rfl h0
  | cons c r =>
    have hk := decU_ok h
    unfold allF
    rw [allU, if_neg (by omega)]
    have : allU (c :: r).length ((c :: r).drop (decU (c :: r)).2.1) (i + (decU (c :: r)).2.1) = allU (((c :: r).drop (decU (c :: r)).2.1).length + 1) ((c :: r).drop (decU (c :: r)).2.1) (i + (decU (c :: r)).2.1) :=
      allU_fuel _ _ _ _ (by rw [List.length_drop]; simp at hk ⊢; omega) (by omega)
    rw [this]
theorem ext_drop (s : ByteArray) (i : Nat) : toL (s.extract i s.size) = (toL s).drop i := by
  rw [extract_toL, cutL, List.take_of_length_le (by rw [List.length_drop, toL_length]; omega)]
def chkF (L : List UInt8) : Nat × Int := match (allF L 0).2 with
  | some y => y
  | none => (0, 0)
theorem decU_size (L : List UInt8) : (decU L).2.1 ≤ 4 := by
  unfold decU
  cases L with
  | nil => simp
  | cons f r =>
    have := measU_le (f :: r)
    dsimp only
    split <;> (try split) <;> (try split) <;> simp <;> omega
set_option maxHeartbeats 4000000 in
set_option maxRecDepth 100000 in
theorem u8_check (s : ByteArray) (w : World) (hs : s.size ≤ 100000000) :
    Calls Tryz.prog 150 #[.string s] w fun e w' => e = .returned (.tuple #[.int .i64 ((chkF (toL s)).1 : Nat), .int .i64 (chkF (toL s)).2]) ∧ Drew w w' := by
  have HL := Lib.hid (toL_length s)
  go_enter Tryz.func150, Tryz.ntmps150
  go_wp2_with fail
  go_loopw [4, 8] (fun v4 _ wr => ∃ i : Nat, i ≤ s.size ∧ v4 = .int .i64 (i : Int) ∧ (allF (toL s) 0).2 = (allF ((toL s).drop i) i).2 ∧ Drew w wr) (fun v4 _ _ => s.size - (intOf v4).toNat)
  case atStart => exact ⟨0, by omega, rfl, rfl, Drew.refl _⟩
  case round =>
    obtain ⟨i, hi, rfl, ha, hd⟩ := hrel
    have HA := Lib.hid ha; have HD := Lib.hid hd; clear ha hd
    obtain ⟨wo, rfl⟩ : ∃ wo : World, wo = wr := ⟨_, rfl⟩
    have i0 : (0 : Int) ≤ (i : Int) := by omega
    by_cases hlt : i < s.size
    · have i1 : (i : Int) < (s.size : Int) := by omega
      have HT := Lib.hid (ext_drop s i)
      have hxs : (s.extract i s.size).size ≤ 100000000 := by rw [extract_size _ _ _ (Nat.le_refl _)]; omega
      have hne : (toL s).drop i ≠ [] := fun h => by have := congrArg List.length h; rw [List.length_drop, HL.out] at this; simp at this; omega
      have HDC := Lib.hid (u8_decode (s.extract i s.size) wo hxs)
      rw [HT.out] at HDC
      have hsz := decU_size ((toL s).drop i)
      by_cases he : (decU ((toL s).drop i)).2.2 = 0
      · have HN := Lib.hid (allF_ok hne i he)
        have hk := decU_ok he
        rw [List.length_drop, HL.out] at hk
        have HA2 := Lib.hid (show (allF (toL s) 0).2 = (allF ((toL s).drop (i + (decU ((toL s).drop i)).2.1)) (i + (decU ((toL s).drop i)).2.1)).2 from by rw [HA.out, HN.out, List.drop_drop])
        rw [he] at HDC
        generalize (decU ((toL s).drop i)).2.1 = n at *
        generalize (decU ((toL s).drop i)).1 = r at *
        clear he hne HT HN
        go_wp2_with fail
        (with_reducible refine HDC.out.mono ?_)
        rintro e w1 ⟨rfl, hd1⟩
        have HD1 := Lib.hid (HD.out.trans hd1)
        clear hd1
        go_wp2_with fail
        go_roundw
        case rel => exact ⟨i + n, by omega, by go_num, HA2.out, HD1.out⟩
        case measure => simp [intOf] <;> omega
      · have HR := Lib.hid (show chkF (toL s) = (i, (decU ((toL s).drop i)).2.2) from by unfold chkF; rw [HA.out, allF_err hne i he])
        have e1 : ((decU ((toL s).drop i)).2.2 == 0) = false := beq_eq_false_iff_ne.2 he
        have e2 : ((decU ((toL s).drop i)).2.2 != 0) = true := by simp [bne, e1]
        have hE : ∃ k, k = (decU ((toL s).drop i)).2.2 := ⟨_, rfl⟩
        obtain ⟨k, hk⟩ := hE
        rw [← hk] at HDC HR e1 e2
        generalize (decU ((toL s).drop i)).2.1 = n at *
        generalize (decU ((toL s).drop i)).1 = r at *
        clear he hne HT hk
        go_wp2_with fail
        (with_reducible refine HDC.out.mono ?_)
        rintro e w1 ⟨rfl, hd1⟩
        have HD1 := Lib.hid (HD.out.trans hd1)
        clear hd1
        go_wp2_with fail
        go_ret2
        exact ⟨by rw [HR.out]; rfl, HD1.out⟩
    · obtain rfl : i = s.size := by omega
      have HR := Lib.hid (show chkF (toL s) = (0, 0) from by unfold chkF; rw [HA.out, List.drop_eq_nil_of_le (by rw [HL.out]; exact Nat.le_refl _)]; rfl)
      have i1 : (s.size : Int) ≤ (s.size : Int) := by omega
      go_wp2_with fail
      go_ret2
      exact ⟨by rw [HR.out]; rfl, HD.out⟩
end Go.Proofs.YtannhfnpigiggaaGreatDoor

namespace Go.Proofs.YtannhfnpigiggaaGreatDoor
set_option linter.unusedSimpArgs false
set_option linter.unusedVariables false
open Go.RowKit

end Go.Proofs.YtannhfnpigiggaaGreatDoor

namespace Go.Proofs.YtannhfnpigiggaaGreatDoor
set_option linter.unusedSimpArgs false
set_option linter.unusedVariables false
open Go.RowKit

end Go.Proofs.YtannhfnpigiggaaGreatDoor

namespace Go.Proofs.YtannhfnpigiggaaGreatDoor
set_option linter.unusedSimpArgs false
set_option linter.unusedVariables false
open Go.RowKit

theorem ext_take (s : ByteArray) (n : Nat) : toL (s.extract 0 n) = (toL s).take n := by rw [extract_toL, cutL]; simp
end Go.Proofs.YtannhfnpigiggaaGreatDoor

namespace Go.Proofs.YtannhfnpigiggaaGreatDoor
set_option linter.unusedSimpArgs false
set_option linter.unusedVariables false
open Go.RowKit

def ints (l : List Nat) : List Value := l.map fun (n : Nat) => Value.int .i64 (n : Int)
theorem ints_len (l : List Nat) : (ints l).length = l.length := by simp [ints]
theorem ints_snoc (l : List Nat) (n : Nat) : ints l ++ #[Value.int .i64 (n : Int)].toList = ints (l ++ [n]) := by simp [ints]
theorem el_int : Elem Tryz.prog 70 3 1 8 := Elem.of Tryz.underlying70 (z := .int .i64 0) (by kernel_rfl) rfl (by omega)
/-- Two rows of numbers of the call's own, apart. -/
structure TwoI (w wr : World) (a b : Value) (l m : List Nat) : Prop where
  oa : wr.ownsRow w.heap.size 3 1 a l.length (ints l)
  ob : wr.ownsRow w.heap.size 3 1 b m.length (ints m)
  ne : ∀ g, a.ownBlock = some g → b.ownBlock ≠ some g
  bel : Below w.heap.size w wr
theorem TwoI.below {w wr w' : World} {a b : Value} {l m : List Nat} (h : TwoI w wr a b l m) (hb : Below wr.heap.size wr w') : TwoI w w' a b l m :=
  ⟨own_below h.oa hb, own_below h.ob hb, h.ne, h.bel.trans (hb.mono h.bel.size)⟩
def IntRow (w : World) (v : Value) (l : List Nat) : Prop := ∃ A c, v = .slice A l.length c ∧ Row w A (ints l)
theorem TwoI.rows {w wr : World} {a b : Value} {l m : List Nat} (h : TwoI w wr a b l m) : IntRow wr a l ∧ IntRow wr b m := by
  obtain ⟨A, c, e, r⟩ := own_row h.oa
  obtain ⟨B, d, e2, r2⟩ := own_row h.ob
  exact ⟨⟨A, c, e, r⟩, ⟨B, d, e2, r2⟩⟩
end Go.Proofs.YtannhfnpigiggaaGreatDoor

namespace Go.Proofs.YtannhfnpigiggaaGreatDoor
set_option linter.unusedSimpArgs false
set_option linter.unusedVariables false
open Go.RowKit

def ctlI (x : Int) : Bool := decide (x < 32) || (decide (127 ≤ x) && decide (x ≤ 159)) || x == 8232 || x == 8233
theorem ctlI_nat (r : Nat) : ctlI (r : Int) = ctlU r := by
  unfold ctlI ctlU
  rw [Bool.eq_iff_iff]
  simp only [Bool.or_eq_true, Bool.and_eq_true, decide_eq_true_eq, beq_iff_eq]
  omega
/-- Where the first line feed lies, from i on. -/
def endF (L : List UInt8) (i : Nat) : Nat := i + ((L.drop i).takeWhile (· != 10)).length
end Go.Proofs.YtannhfnpigiggaaGreatDoor

namespace Go.Proofs.YtannhfnpigiggaaGreatDoor
set_option linter.unusedSimpArgs false
set_option linter.unusedVariables false
open Go.RowKit

def hitP2 (x : Nat × Nat) : Bool := hitU x.2
/-- Where the first bad code point of a line lies; -1: nowhere. -/
def badG (L : List UInt8) : Int := match (allF L 0).1.find? hitP2 with
  | some x => (x.1 : Int)
  | none => match (allF L 0).2 with
    | some y => (y.1 : Int)
    | none => -1
end Go.Proofs.YtannhfnpigiggaaGreatDoor
