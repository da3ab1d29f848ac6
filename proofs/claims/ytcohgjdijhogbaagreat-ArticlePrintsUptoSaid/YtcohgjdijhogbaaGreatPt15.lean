/- Lemmas and walks, part 15. -/
import Derived.Test.YtcohgjdijhogbaaGreatPt14
namespace Go.Proofs.YtcohgjdijhogbaaGreat
set_option linter.unusedSimpArgs false
set_option linter.unusedVariables false

theorem endF_ge (L : List UInt8) (i : Nat) : i ≤ endF L i := by unfold endF; omega
theorem endF_le (L : List UInt8) (i : Nat) (h : i ≤ L.length) : endF L i ≤ L.length := by
  unfold endF
  have : ((L.drop i).takeWhile (· != 10)).length ≤ (L.drop i).length := (List.takeWhile_sublist _).length_le
  rw [List.length_drop] at this; omega
/-- Where the lines begin and end, from i on. -/
def spansU : Nat → List UInt8 → Nat → List (Nat × Nat)
  | 0, _, _ => []
  | k + 1, L, i => if i < L.length then (i, endF L i) :: spansU k L (endF L i + 1) else []
def spans (L : List UInt8) (i : Nat) : List (Nat × Nat) := spansU (L.length + 1) L i
theorem spansU_fuel : ∀ (n m : Nat) (L : List UInt8) (i : Nat), L.length < n + i → L.length < m + i → spansU n L i = spansU m L i
  | 0, 0, _, _, _, _ => rfl
  | 0, m + 1, L, i, h, _ => by rw [spansU, spansU, if_neg (by omega)]
  | n + 1, 0, L, i, _, h => by rw [spansU, spansU, if_neg (by omega)]
  | n + 1, m + 1, L, i, h1, h2 => by
    rw [spansU, spansU]
    by_cases h : i < L.length
    · have := endF_ge L i
      rw [if_pos h, if_pos h, spansU_fuel n m L _ (by omega) (by omega)]
    · rw [if_neg h, if_neg h]
theorem spans_step {L : List UInt8} {i : Nat} (h : i < L.length) : spans L i = (i, endF L i) :: spans L (endF L i + 1) := by
  have := endF_ge L i
  unfold spans
  rw [spansU, if_pos h, spansU_fuel L.length (L.length + 1) L _ (by omega) (by omega)]
theorem spans_end {L : List UInt8} {i : Nat} (h : L.length ≤ i) : spans L i = [] := by
  unfold spans; rw [spansU, if_neg (by omega)]
/-- The first error of a body among lines. -/
def bodyGo (L : List UInt8) : List (Nat × Nat) → Nat × Int
  | [] => (0, 0)
  | x :: r => if x.2 = L.length then (L.length, 4) else if 998 < x.2 - x.1 then (x.1 + 998, 5) else if 0 ≤ badG (cutL L x.1 x.2) then (x.1 + (badG (cutL L x.1 x.2)).toNat, 6) else bodyGo L r
def bodyF (L : List UInt8) : Nat × Int := bodyGo L (spans L 0)
theorem badG_ge (L : List UInt8) : -1 ≤ badG L := by
  unfold badG; split
  · omega
  · split <;> omega
theorem allU_off : ∀ (n : Nat) (l : List UInt8) (i : Nat), (∀ x ∈ (allU n l i).1, x.1 ≤ i + l.length) ∧ ∀ y, (allU n l i).2 = some y → y.1 ≤ i + l.length
  | 0, l, i => by simp [allU]
  | n + 1, [], i => by simp [allU]
  | n + 1, c :: r, i => by
    rw [allU]
    by_cases h : (decU (c :: r)).2.2 ≠ 0
    · rw [if_pos h]
      exact ⟨by simp, fun y e => by injection e with e; subst e; simp⟩
    · rw [if_neg h]
      have hk := decU_ok (l := c :: r) (by omega)
      obtain ⟨h1, h2⟩ := allU_off n ((c :: r).drop (decU (c :: r)).2.1) (i + (decU (c :: r)).2.1)
      rw [List.length_drop] at h1 h2
      refine ⟨fun x hx => ?_, fun y e => ?_⟩
      · rcases List.mem_cons.1 hx with rfl | hx
        · simp
        · have := h1 x hx; omega
      · have := h2 y e; omega
theorem badG_le (L : List UInt8) : badG L ≤ L.length := by
  obtain ⟨h1, h2⟩ := allU_off (L.length + 1) L 0
  unfold badG
  split
  · rename_i x hx
    have := h1 x (List.mem_of_find?_eq_some hx); omega
  · split
    · rename_i y hy
      have := h2 y hy; omega
    · omega
end Go.Proofs.YtcohgjdijhogbaaGreat

namespace Go.Proofs.YtcohgjdijhogbaaGreat
set_option linter.unusedSimpArgs false
set_option linter.unusedVariables false
open Go.RowKit

set_option maxHeartbeats 4000000 in
set_option maxRecDepth 100000 in
theorem rf_body (s : ByteArray) (w : World) (hs : s.size ≤ 1000000) : Calls Tryz.prog 23 #[.string s] w fun e w' => e = .returned (.tuple #[.int .i64 ((bodyF (toL s)).1 : Nat), .int .i64 (bodyF (toL s)).2]) ∧ Below w.heap.size w w' := by
  have HL := Lib.hid (toL_length s)
  go_enter Tryz.func23, Tryz.ntmps23
  go_wp2_with fail
  go_loopw [4, 7] (fun v4 _ wr => ∃ i : Nat, i ≤ s.size + 1 ∧ v4 = .int .i64 (i : Int) ∧ bodyF (toL s) = bodyGo (toL s) (spans (toL s) i) ∧ Below w.heap.size w wr) (fun v4 _ _ => s.size + 1 - (intOf v4).toNat)
  case atStart => exact ⟨0, by omega, rfl, rfl, Below.refl _ _⟩
  case round =>
    obtain ⟨i, hi, rfl, hb, hw⟩ := hrel
    have HB := Lib.hid hb; have HW := Lib.hid hw; clear hb hw
    obtain ⟨wo, rfl⟩ : ∃ wo : World, wo = wr := ⟨_, rfl⟩
    have i0 : (0 : Int) ≤ (i : Int) := by omega
    by_cases hlt : i < s.size
    · have i1 : (i : Int) < (s.size : Int) := by omega
      have HS := Lib.hid (spans_step (L := toL s) (i := i) (by rw [HL.out]; exact hlt))
      have hge := endF_ge (toL s) i
      have hle := endF_le (toL s) i (by rw [HL.out]; omega)
      rw [HL.out] at hle
      have HEND := Lib.hid (fun wx => rf_end s i wx (by omega) (by omega))
      generalize endF (toL s) i = b at *
      have HB2 := Lib.hid (show bodyF (toL s) = if b = s.size then (s.size, 4) else if 998 < b - i then (i + 998, 5) else if 0 ≤ badG (cutL (toL s) i b) then (i + (badG (cutL (toL s) i b)).toNat, 6) else bodyGo (toL s) (spans (toL s) (b + 1)) from by
        rw [HB.out, HS.out, bodyGo, HL.out])
      clear HB HS
      by_cases h1 : b = s.size
      · have HR := Lib.hid (show bodyF (toL s) = (s.size, 4) from by rw [HB2.out, if_pos h1])
        have e1 : ((b : Int) == (s.size : Int)) = true := by rw [beq_iff_eq]; omega
        clear h1 HB2
        go_wp2_with ((go_at_call 21; (with_reducible refine (HEND.out _).mono ?_); rintro e w' ⟨rfl, rfl⟩))
        go_ret2
        exact ⟨by rw [HR.out]; rfl, HW.out⟩
      · have e1 : ((b : Int) == (s.size : Int)) = false := beq_eq_false_iff_ne.2 (by omega)
        by_cases h2 : 998 < b - i
        · have HR := Lib.hid (show bodyF (toL s) = (i + 998, 5) from by rw [HB2.out, if_neg h1, if_pos h2])
          have e2 : (998 : Int) < (b : Int) - (i : Int) := by omega
          clear h1 h2 HB2
          go_wp2_with ((go_at_call 21; (with_reducible refine (HEND.out _).mono ?_); rintro e w' ⟨rfl, rfl⟩))
          go_ret2
          exact ⟨by rw [HR.out]; rfl, HW.out⟩
        · have e2 : (b : Int) - (i : Int) ≤ 998 := by omega
          have b0 : (0 : Int) ≤ (b : Int) := by omega
          have b1 : (i : Int) ≤ (b : Int) := by omega
          have b2 : (b : Int) ≤ (s.size : Int) := by omega
          have hxs : (s.extract i b).size ≤ 1000000 := by rw [extract_size _ _ _ hle]; omega
          have HBD := Lib.hid (fun wx => rf_bad (s.extract i b) wx hxs)
          rw [extract_toL] at HBD
          have hbg := badG_ge (cutL (toL s) i b)
          have hbu : badG (cutL (toL s) i b) ≤ 1000000 := by
            have h5 := badG_le (cutL (toL s) i b)
            rw [cutL_length _ _ _ (by rw [HL.out]; exact hle)] at h5
            omega
          by_cases h3 : 0 ≤ badG (cutL (toL s) i b)
          · have HR := Lib.hid (show bodyF (toL s) = (i + (badG (cutL (toL s) i b)).toNat, 6) from by rw [HB2.out, if_neg h1, if_neg h2, if_pos h3])
            have HSUM := Lib.hid (show (i : Int) + badG (cutL (toL s) i b) = ((i + (badG (cutL (toL s) i b)).toNat : Nat) : Int) from by omega)
            generalize badG (cutL (toL s) i b) = g at *
            clear h1 h2 HB2 hxs
            go_wp2_with (first | (go_at_call 21; (with_reducible refine (HEND.out _).mono ?_); rintro e w' ⟨rfl, rfl⟩) | (go_at_call 37; (with_reducible refine (HBD.out _).mono ?_); rintro e w1 ⟨rfl, hb1⟩))
            go_ret2
            exact ⟨by rw [HR.out, ← HSUM.out]; rfl, HW.out.trans (hb1.mono HW.out.size)⟩
          · have HN := Lib.hid (show bodyF (toL s) = bodyGo (toL s) (spans (toL s) (b + 1)) from by rw [HB2.out, if_neg h1, if_neg h2, if_neg h3])
            have h3' : badG (cutL (toL s) i b) < 0 := by omega
            generalize badG (cutL (toL s) i b) = g at *
            clear h1 h2 h3 HB2 hxs
            go_wp2_with (first | (go_at_call 21; (with_reducible refine (HEND.out _).mono ?_); rintro e w' ⟨rfl, rfl⟩) | (go_at_call 37; (with_reducible refine (HBD.out _).mono ?_); rintro e w1 ⟨rfl, hb1⟩))
            go_roundw
            case rel => exact ⟨b + 1, by omega, by go_num, HN.out, HW.out.trans (hb1.mono HW.out.size)⟩
            case measure => simp [intOf] <;> omega
    · have HR := Lib.hid (show bodyF (toL s) = (0, 0) from by rw [HB.out, spans_end (by rw [HL.out]; omega)]; rfl)
      have i1 : (s.size : Int) ≤ (i : Int) := by omega
      go_wp2_with fail
      go_ret2
      exact ⟨by rw [HR.out]; rfl, HW.out⟩
end Go.Proofs.YtcohgjdijhogbaaGreat

namespace Go.Proofs.YtcohgjdijhogbaaGreat
set_option linter.unusedSimpArgs false
set_option linter.unusedVariables false
open Go.RowKit

/-- The lines' texts. -/
def linesF (L : List UInt8) : List (List UInt8) := (spans L 0).map fun x => cutL L x.1 x.2
theorem el_str4 : Elem Tryz.prog 104 9 1 16 := Elem.of Tryz.underlying104 (z := .string ⟨#[]⟩) (by kernel_rfl) rfl (by omega)
theorem spans_len : ∀ (n : Nat) (L : List UInt8) (i : Nat), (spansU n L i).length ≤ n
  | 0, _, _ => by simp [spansU]
  | n + 1, L, i => by
    rw [spansU]; split
    · have := spans_len n L (endF L i + 1); simp; omega
    · simp
structure StrO (w wr : World) (v : Value) (l : List (List UInt8)) : Prop where
  own : wr.ownsRow w.heap.size 9 1 v l.length (strsL l)
  bel : Below w.heap.size w wr
end Go.Proofs.YtcohgjdijhogbaaGreat

namespace Go.Proofs.YtcohgjdijhogbaaGreat
set_option linter.unusedSimpArgs false
set_option linter.unusedVariables false
open Go.RowKit

def levN (L : List UInt8) : Nat := (L.takeWhile (· == 62)).length
def levR (L : List UInt8) : List UInt8 := if 0 < levN L ∧ (L.drop (levN L))[0]? = some 32 then L.drop (levN L + 1) else L.drop (levN L)
/-- The marks from k on. -/
def levK (L : List UInt8) (k : Nat) : Nat := k + ((L.drop k).takeWhile (· == 62)).length
theorem levK_zero (L : List UInt8) : levN L = levK L 0 := by simp [levN, levK]
theorem levK_step {s : ByteArray} {k : Nat} (h : k < s.size) : levK (toL s) k = if s[k]'h = 62 then levK (toL s) (k + 1) else k := by
  have hl : k < (toL s).length := by rw [toL_length]; exact h
  unfold levK
  rw [List.drop_eq_getElem_cons hl, List.takeWhile_cons, toL_getElem s k h]
  by_cases e : s[k]'h = 62
  · rw [if_pos e, e]; simp; omega
  · have : (s[k]'h == 62) = false := by simpa using e
    rw [if_neg e, this]; simp
theorem levK_end {s : ByteArray} {k : Nat} (h : s.size ≤ k) : levK (toL s) k = k := by
  unfold levK; rw [List.drop_eq_nil_of_le (by rw [toL_length]; exact h)]; rfl
theorem levN_le (s : ByteArray) : levN (toL s) ≤ s.size := by
  rw [← toL_length s]; exact (List.takeWhile_sublist _).length_le
end Go.Proofs.YtcohgjdijhogbaaGreat
