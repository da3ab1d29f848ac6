/- The law's upper: a text in which some letters have the other case. -/
import Derived.Test.YtannhfnpigiggaaGreatDoorPs4
import Derived.Test.YtannhfnpigiggaaGreatDoorPs7
namespace Go.Proofs.YtannhfnpigiggaaGreatDoor
set_option linter.unusedSimpArgs false
set_option linter.unusedVariables false
open Go.RowKit

theorem lower_flip : ∀ n : Fin 256, isLetter (num (UInt8.ofNat n.val)) = true → lowerB (UInt8.ofNat n.val ^^^ 32) = lowerB (UInt8.ofNat n.val) := by decide +kernel
theorem lower_xor {c : UInt8} (h : isLetter (num c) = true) : lowerB (c ^^^ 32) = lowerB c := by
  have := lower_flip ⟨c.toNat, c.toNat_lt⟩
  simp only [UInt8.ofNat_toNat] at this
  exact this h
theorem num_flip : ∀ n : Fin 256, bits .xor .u8 (num (UInt8.ofNat n.val)) 32 = num (UInt8.ofNat n.val ^^^ 32) := by decide +kernel
theorem num_xor (c : UInt8) : bits .xor .u8 (num c) 32 = num (c ^^^ 32) := by
  have := num_flip ⟨c.toNat, c.toNat_lt⟩
  simp only [UInt8.ofNat_toNat] at this
  exact this
theorem lowerL_set {L : List UInt8} {k : Nat} (hk : k < L.length) {c : UInt8} (h : lowerB c = lowerB L[k]) : lowerL (L.set k c) = lowerL L := by
  unfold lowerL
  rw [List.map_set, h]
  apply List.ext_getElem
  · simp
  · intro i h1 h2
    rw [List.getElem_set]
    split
    · subst_vars; simp
    · rfl
set_option maxHeartbeats 1000000 in
set_option maxRecDepth 100000 in
theorem law_upper (s : ByteArray) (x : Int) (hx0 : 0 ≤ x) (hx1 : x ≤ 255) (w : World) (hs : s.size ≤ maxLen) :
    Calls Tryz.prog 16 #[.string s, .int .u8 x] w fun e w' => ∃ L : List UInt8, L.length = s.size ∧ lowerL L = lowerL (toL s) ∧ e = .returned (.string (ofL L)) ∧ Below w.heap.size w w' := by
  unfold maxLen at hs
  have hconv := Lib.run_convert_string_bytes (P := Tryz.prog) w 9 50 5 s Tryz.underlying9 Tryz.underlying50 Tryz.underlying5
  have hst : BytesAt (Lib.bytesWorld w 5 s) w.heap.size (toL s) ∧ Below w.heap.size w (Lib.bytesWorld w 5 s) := ⟨bytesAt_new _ _ _, bytesWorld_below w 5 s⟩
  generalize Lib.bytesWorld w 5 s = w1 at hconv hst
  generalize grownCap w s.size 0 5 = cap at hconv
  go_enter Tryz.func16, Tryz.ntmps16
  go_wp2_with fail
  clear hconv
  go_loopw [6] (fun v wr => ∃ (k : Nat) (L : List UInt8), k ≤ s.size ∧ L.length = s.size ∧ lowerL L = lowerL (toL s) ∧ v = .int .i64 k ∧ BytesAt wr w.heap.size L ∧ Below w.heap.size w wr) (fun v _ => s.size - (intOf v).toNat)
  case atStart => exact ⟨0, toL s, by omega, toL_length s, rfl, rfl, hst⟩
  case round =>
    obtain ⟨k, L, hk, hlen, hlow, rfl, hB, hbel⟩ := hrel
    by_cases hlt : k < s.size
    · have hlt' : k < L.length := by omega
      have hc := hB.cells k hlt'
      have hf := hB.free k hlt'
      have HS := Lib.hid (fun c h => lowerL_set (L := L) (c := c) hlt' h)
      generalize L[k] = c at *
      have HB := Lib.hid (hB.set k (c ^^^ 32))
      have HX := Lib.hid (fun h => lower_xor (c := c) h)
      have hxo := num_xor c
      have HBB := Lib.hid hB
      have HLW := Lib.hid hlow
      have HLN := Lib.hid hlen
      clear hB hlow
      have c0 : 0 ≤ num c := by simp [num]
      have c1 : num c ≤ 255 := by have := c.toNat_lt; simp [num]; omega
      go_wp2_with fail
      all_goals refine ⟨?_, by simp [intOf] <;> omega⟩
      all_goals first
        | exact ⟨k + 1, L, by omega, HLN.out, HLW.out, by go_num, HBB.out, hbel⟩
        | exact ⟨k + 1, L.set k (c ^^^ 32), by omega, by rw [List.length_set]; exact HLN.out, (HS.out _ (HX.out (by simp [isLetter, isLower, isUpper]; omega))).trans HLW.out, by go_num, HB.out, hbel.setCell (p := ⟨w.heap.size, k, none⟩) (Nat.le_refl _) _⟩
    · have hk' : k = s.size := by omega
      subst hk'
      have hcv := run_convert_bytes_back (P := Tryz.prog) wr 50 9 5 ⟨w.heap.size, 0, none⟩ cap L Tryz.underlying50 Tryz.underlying5 Tryz.underlying9 (fun j hj => by have := hB.cells j hj; rw [Addr.add]; split <;> simp_all)
      rw [hlen] at hcv
      have HLW := Lib.hid hlow
      have HLN := Lib.hid hlen
      clear hlow hlen hB
      go_wp2_with fail
      go_ret
      exact ⟨L, HLN.out, HLW.out, rfl, hbel⟩
end Go.Proofs.YtannhfnpigiggaaGreatDoor
