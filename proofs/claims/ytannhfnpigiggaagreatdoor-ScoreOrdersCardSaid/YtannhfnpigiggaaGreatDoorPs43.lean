/- Lemmas and walks, part 43. -/
import Derived.Test.YtannhfnpigiggaaGreatDoorPs3
import Derived.Test.YtannhfnpigiggaaGreatDoorPs9
import Derived.IntWalk
import Derived.BigRegion
namespace Go.Proofs.YtannhfnpigiggaaGreatDoor
set_option linter.unusedSimpArgs false
set_option linter.unusedVariables false
open Go.RowKit

/-- Numbers in a block of their own. -/
structure Dat (w : World) (g : Nat) (D : List Nat) : Prop where
  lt : g < w.heap.size
  cells : ∀ j (h : j < D.length), w.cell? ⟨g, j, none⟩ = some (.int .i64 (D[j] : Int))
  free : ∀ j, j < D.length → w.frozen? ⟨g, j, none⟩ = false
theorem Dat.set {w : World} {g : Nat} {D : List Nat} (h : Dat w g D) (k x : Nat) : Dat (w.setCell ⟨g, k, none⟩ (.int .i64 (x : Int))) g (D.set k x) := by
  refine ⟨by rw [World.size_setCell]; exact h.lt, fun j hj => ?_, fun j hj => ?_⟩
  · simp only [List.length_set] at hj
    by_cases e : k = j
    · subst e
      rw [World.cell?_setCell_same _ _ _ (h.cells k hj)]; simp
    · rw [World.cell?_setCell_other _ _ _ _ (by simp [e]), h.cells j hj, List.getElem_set_ne e]
  · simp only [List.length_set] at hj
    rw [World.frozen?_setCell]; exact h.free j hj
theorem Dat.get {w : World} {g : Nat} {D : List Nat} (h : Dat w g D) {j x : Nat} (hx : D[j]? = some x) : w.cell? ⟨g, j, none⟩ = some (.int .i64 (x : Int)) ∧ w.frozen? ⟨g, j, none⟩ = false := by
  have hj : j < D.length := by
    rcases Nat.lt_or_ge j D.length with q | q
    · exact q
    · rw [List.getElem?_eq_none q] at hx; cases hx
  rw [List.getElem?_eq_getElem hj] at hx
  injection hx with hx
  have := h.cells j hj
  rw [hx] at this
  exact ⟨this, h.free j hj⟩
theorem Dat.keep {w w' : World} {g : Nat} {D : List Nat} (h : Dat w g D) (hk : w'.heap[g]? = w.heap[g]?) (hz : w.heap.size ≤ w'.heap.size) : Dat w' g D :=
  ⟨Nat.lt_of_lt_of_le h.lt hz, fun j hj => (World.cell?_of_block (a := ⟨g, j, none⟩) hk).trans (h.cells j hj), fun j hj => by
    have := h.free j hj
    unfold World.frozen? at this ⊢
    rw [hk]; exact this⟩
theorem Dat.below {w w' : World} {g : Nat} {D : List Nat} (h : Dat w g D) (hb : Below w.heap.size w w') : Dat w' g D := h.keep (hb.block g h.lt) hb.size
/-- Only the block g differs. -/
def Og (g : Nat) (w w' : World) : Prop := w'.heap.size = w.heap.size ∧ Fr g (fun k => k = g) w w'
theorem Og.refl (g : Nat) (w : World) : Og g w w := ⟨rfl, Fr.refl _ _ _⟩
theorem Og.set {g : Nat} {w w' : World} (h : Og g w w') (i : Nat) (u : Value) : Og g w (w'.setCell ⟨g, i, none⟩ u) := ⟨by rw [World.size_setCell]; exact h.1, h.2.set u (Nat.le_refl _) (.inl rfl)⟩
theorem Og.drew {g : Nat} {w w' : World} (h : Og g w w') : Og g w w'.drew := ⟨h.1, h.2.drew⟩
theorem Dat.drew {w : World} {g : Nat} {D : List Nat} (h : Dat w g D) : Dat w.drew g D := ⟨h.lt, h.cells, h.free⟩
theorem Og.trans {g : Nat} {w w1 w2 : World} (h : Og g w w1) (k : Og g w1 w2) : Og g w w2 := ⟨k.1.trans h.1, h.2.trans k.2 (fun i hi => .inl hi)⟩
set_option maxHeartbeats 4000000 in
set_option maxRecDepth 100000 in
theorem so_swap {g cap : Nat} {D : List Nat} {w : World} (h : Dat w g D) (F : Value) (a b n : Nat) (h1 : a + n ≤ b) (h2 : b + n ≤ D.length) (hm : D.length ≤ 1000000) :
    Calls Tryz.prog 133 #[.slice (some ⟨g, 0, none⟩) D.length cap, .int .i64 (a : Int), .int .i64 (b : Int), .int .i64 (n : Int), F] w fun e w' => e = .returned (.tuple #[]) ∧ Og g w w' ∧ Dat w' g (Sp.swpR D a b n) := by
  have HD := Lib.hid h
  clear h
  go_enter Tryz.func133, Tryz.ntmps133
  go_wp2_with fail
  go_loopw [10] (fun v wr => ∃ i : Nat, i ≤ n ∧ v = .int .i64 (i : Int) ∧ Og g w wr ∧ Dat wr g (Sp.swpR D a b i)) (fun v _ => n - (intOf v).toNat)
  case atStart => exact ⟨0, by omega, rfl, Og.refl _ _, HD.out⟩
  case round =>
    obtain ⟨i, hi, rfl, hk, hd⟩ := hrel
    have HK := Lib.hid hk
    have HDI := Lib.hid hd
    clear hk hd HD
    have i0 : (0 : Int) ≤ (i : Int) := by omega
    by_cases hlt : i < n
    · have i1 : (i : Int) < (n : Int) := by omega
      have ga : (Sp.swpR D a b i)[a + i]? = some (D.getD (a + i) 0) := by
        rw [Sp.swpR_get h1 h2 i hi, if_neg (by omega), if_neg (by omega), List.getD_eq_getElem?_getD, List.getElem?_eq_getElem (by omega)]; rfl
      have gb : (Sp.swpR D a b i)[b + i]? = some (D.getD (b + i) 0) := by
        rw [Sp.swpR_get h1 h2 i hi, if_neg (by omega), if_neg (by omega), List.getD_eq_getElem?_getD, List.getElem?_eq_getElem (by omega)]; rfl
      obtain ⟨ca, fa⟩ := HDI.out.get ga
      obtain ⟨cb, fb⟩ := HDI.out.get gb
      have HN := Lib.hid (show Dat ((wr.setCell ⟨g, a + i, none⟩ (.int .i64 (D.getD (b + i) 0 : Nat))).setCell ⟨g, b + i, none⟩ (.int .i64 (D.getD (a + i) 0 : Nat))) g (Sp.swpR D a b (i + 1)) from (HDI.out.set _ _).set _ _)
      have x1 : IntKind.i64.wrap ((a : Int) + (i : Int)) = ((a + i : Nat) : Int) := IntWalk.i64_in _ (by omega)
      have x2 : IntKind.i64.wrap ((b : Int) + (i : Int)) = ((b + i : Nat) : Int) := IntWalk.i64_in _ (by omega)
      generalize D.getD (a + i) 0 = xa at *
      generalize D.getD (b + i) 0 = xb at *
      clear ga gb
      have q1 : ((a + i : Nat) : Int) < (D.length : Int) := by omega
      have q2 : ((b + i : Nat) : Int) < (D.length : Int) := by omega
      have q3 : a + i ≠ b + i := by omega
      go_wp2_with fail
      go_region
      all_goals go_wp2_with fail
      go_roundw
      case rel => exact ⟨i + 1, by omega, by go_num, ((HK.out.set _ _).set _ _).drew, HN.out.drew⟩
      case measure => simp [intOf] <;> omega
    · obtain rfl : i = n := by omega
      have i1 : (i : Int) ≤ (i : Int) := by omega
      go_wp2_with fail
      go_end0
      exact ⟨rfl, HK.out, HDI.out⟩
theorem Dat.cast {w : World} {g : Nat} {D E : List Nat} (h : Dat w g D) (e : D = E) : Dat w g E := e ▸ h
set_option maxHeartbeats 4000000 in
set_option maxRecDepth 100000 in
theorem so_rot {g cap : Nat} {D T : List Nat} {w : World} (h : Dat w g D) (F : Value) (a m b : Nat) (h1 : a < m) (h2 : m < b) (h3 : b ≤ D.length) (hm : D.length ≤ 1000000) (hT : D.take a ++ Sp.seg D m b ++ Sp.seg D a m ++ D.drop b = T) :
    Calls Tryz.prog 117 #[.slice (some ⟨g, 0, none⟩) D.length cap, .int .i64 (a : Int), .int .i64 (m : Int), .int .i64 (b : Int), F] w fun e w' => e = .returned (.tuple #[]) ∧ Og g w w' ∧ Dat w' g T := by
  have HD := Lib.hid h
  have hst := Sp.RotAt.start (D := D) (a := a) (m := m) (b := b) (by omega) (by omega) h3
  rw [hT] at hst
  have HST := Lib.hid hst
  clear h hst hT
  obtain ⟨n, hn⟩ : ∃ n, D.length = n := ⟨_, rfl⟩
  rw [hn] at h3 hm
  have x1 : IntKind.i64.wrap ((m : Int) - (a : Int)) = ((m - a : Nat) : Int) := by rw [IntWalk.i64_in _ (by omega)]; omega
  have x2 : IntKind.i64.wrap ((b : Int) - (m : Int)) = ((b - m : Nat) : Int) := by rw [IntWalk.i64_in _ (by omega)]; omega
  rw [hn]
  go_enter Tryz.func117, Tryz.ntmps117
  go_wp2_with fail
  go_loopw [10, 11] (fun v1 v2 wr => ∃ i j : Nat, ∃ E : List Nat, 0 < i ∧ 0 < j ∧ i ≤ m - a ∧ j ≤ b - m ∧ v1 = .int .i64 (i : Int) ∧ v2 = .int .i64 (j : Int) ∧ Og g w wr ∧ Dat wr g E ∧ E.length = n ∧ Sp.RotAt T m i j E) (fun v1 v2 _ => (intOf v1).toNat + (intOf v2).toNat)
  case atStart => exact ⟨m - a, b - m, D, by omega, by omega, by omega, by omega, rfl, rfl, Og.refl _ _, HD.out, hn, HST.out⟩
  case round =>
    obtain ⟨i, j, E, hi0, hj0, hi, hj, rfl, rfl, hk, hd, hl, hr⟩ := hrel
    have HK := Lib.hid hk
    have HDI := Lib.hid hd
    have HR := Lib.hid hr
    clear hk hd HD HST hr x1 x2
    subst hl
    by_cases hij : i = j
    · subst hij
      have HT := Lib.hid HR.out.same
      have HS := Lib.hid (so_swap (cap := cap) HDI.out F (m - i) m i (by omega) (by omega) hm)
      rw [HT.out] at HS
      have x3 : IntKind.i64.wrap ((m : Int) - (i : Int)) = ((m - i : Nat) : Int) := by rw [IntWalk.i64_in _ (by omega)]; omega
      have e1 : ((i : Int) != (i : Int)) = false := by simp
      go_wp2_with ((go_at_call 133; (with_reducible refine HS.out.mono ?_); rintro e w2 ⟨rfl, hk2, hd2⟩; have HK2 := Lib.hid (HK.out.trans hk2); have HD2 := Lib.hid hd2; clear hk2 hd2))
      go_end0
      exact ⟨rfl, HK2.out, HD2.out⟩
    · have e1 : ((i : Int) != (j : Int)) = true := by rw [bne_iff_ne]; omega
      have x3 : IntKind.i64.wrap ((m : Int) - (i : Int)) = ((m - i : Nat) : Int) := by rw [IntWalk.i64_in _ (by omega)]; omega
      by_cases hlt : j < i
      · have i1 : (j : Int) < (i : Int) := by omega
        have HN := Lib.hid (HR.out.big hlt)
        have HS := Lib.hid (so_swap (cap := cap) HDI.out F (m - i) m j (by omega) (by omega) hm)
        have HLN := Lib.hid (Sp.swpR_length E (m - i) m j)
        have x4 : IntKind.i64.wrap ((i : Int) - (j : Int)) = ((i - j : Nat) : Int) := by rw [IntWalk.i64_in _ (by omega)]; omega
        generalize Sp.swpR E (m - i) m j = E2 at *
        go_wp2_with ((go_at_call 133; (with_reducible refine HS.out.mono ?_); rintro e w2 ⟨rfl, hk2, hd2⟩; have HK2 := Lib.hid (HK.out.trans hk2); have HD2 := Lib.hid hd2; clear hk2 hd2))
        go_roundw
        case rel => exact ⟨i - j, j, E2, by omega, by omega, by omega, by omega, rfl, rfl, HK2.out, HD2.out, HLN.out, HN.out⟩
        case measure => simp [intOf] <;> omega
      · have i1 : (i : Int) ≤ (j : Int) := by omega
        have hlt2 : i < j := by omega
        have HN := Lib.hid (HR.out.small hlt2)
        have HS := Lib.hid (so_swap (cap := cap) HDI.out F (m - i) (m + j - i) i (by omega) (by omega) hm)
        have HLN := Lib.hid (Sp.swpR_length E (m - i) (m + j - i) i)
        have x4 : IntKind.i64.wrap ((j : Int) - (i : Int)) = ((j - i : Nat) : Int) := by rw [IntWalk.i64_in _ (by omega)]; omega
        have x5 : IntKind.i64.wrap ((m : Int) + (j : Int)) = (m : Int) + (j : Int) := IntWalk.i64_in _ (by omega)
        have x6 : IntKind.i64.wrap ((m : Int) + (j : Int) - (i : Int)) = ((m + j - i : Nat) : Int) := by rw [IntWalk.i64_in _ (by omega)]; omega
        generalize Sp.swpR E (m - i) (m + j - i) i = E2 at *
        go_wp2_with ((go_at_call 133; (with_reducible refine HS.out.mono ?_); rintro e w2 ⟨rfl, hk2, hd2⟩; have HK2 := Lib.hid (HK.out.trans hk2); have HD2 := Lib.hid hd2; clear hk2 hd2))
        go_roundw
        case rel => exact ⟨i, j - i, E2, by omega, by omega, by omega, by omega, rfl, rfl, HK2.out, HD2.out, HLN.out, HN.out⟩
        case measure => simp [intOf] <;> omega
end Go.Proofs.YtannhfnpigiggaaGreatDoor

namespace Go.Proofs.YtannhfnpigiggaaGreatDoor
set_option linter.unusedSimpArgs false
set_option linter.unusedVariables false
open Go.RowKit

/-- Only the block g differs, and what is new. -/
abbrev Fg (g : Nat) (w w' : World) : Prop := Fr g (fun k => k = g) w w'
/-- A comparison of a later number with an earlier one. -/
structure CmpIs (cp : Value) (g : Nat) (W0 : World) (N : Nat) (lt : Nat → Nat → Prop) : Prop where
  ord : Sp.Ord lt
  calls : ∀ (i j : Nat), i < j → j < N → ∃ z : Int, (z < 0 ↔ lt j i) ∧ ∀ wx, Fg g W0 wx → Calls Tryz.prog 43 #[.int .i64 (j : Int), .int .i64 (i : Int), cp] wx fun e w' => e = .returned (.int .i64 z) ∧ ∃ m, w' = wx.drewN m
theorem Fg.bel {g : Nat} {w w1 w2 : World} (h : Fg g w w1) (hg : g < w1.heap.size) (hb : Below w1.heap.size w1 w2) : Fg g w w2 :=
  ⟨Below.trans (Fr.bel h) (hb.mono (Nat.le_of_lt hg)), fun i hi hs => (hb.block i (Nat.lt_of_lt_of_le hi (Fr.size h))).trans (Fr.oth h i hi hs)⟩
theorem Fg.set {g : Nat} {w w1 : World} (h : Fg g w w1) (i : Nat) (u : Value) : Fg g w (w1.setCell ⟨g, i, none⟩ u) := Fr.set h u (Nat.le_refl _) (.inl rfl)
theorem Fg.drewN {g : Nat} {w w1 : World} (h : Fg g w w1) (n : Nat) : Fg g w (w1.drewN n) := ⟨below_drewN (Fr.bel h) n, fun k hk hs => Fr.oth h k hk hs⟩
theorem Dat.drewN {w : World} {g : Nat} {D : List Nat} (h : Dat w g D) (n : Nat) : Dat (w.drewN n) g D := ⟨h.lt, h.cells, h.free⟩
set_option maxHeartbeats 8000000 in
set_option maxRecDepth 100000 in
theorem so_ins {N g cap : Nat} {cp : Value} {W0 w : World} {lt : Nat → Nat → Prop} (C : CmpIs cp g W0 N lt) {D : List Nat} (hD : Dat w g D) (hf : Fg g W0 w) (a b : Nat) (hab : a ≤ b) (hb : b ≤ D.length) (hi : Sp.Inc (Sp.seg D a b)) (hN : ∀ x ∈ D, x < N) (hm : D.length ≤ 1000000) :
    Calls Tryz.prog 96 #[.slice (some ⟨g, 0, none⟩) D.length cap, .int .i64 (a : Int), .int .i64 (b : Int), .func (.func 43) #[] #[cp]] w fun e w' => e = .returned (.tuple #[]) ∧ Fg g W0 w' ∧ ∃ D', Dat w' g D' ∧ Sp.Sorted lt D a b D' := by
  have HO := Lib.hid C.ord
  have HE := Tryz.call43
  have HC := Lib.hid C.calls
  have HD := Lib.hid hD
  have HF := Lib.hid hf
  have HI := Lib.hid hi
  have HN := Lib.hid hN
  obtain ⟨n, hn⟩ : ∃ n, D.length = n := ⟨_, rfl⟩
  have HLN := Lib.hid hn
  have HZ := Lib.hid (Sp.sorted_zero (lt := lt) (D := D) (a := a) (b := min (a + 1) b) (by omega))
  rw [hn] at hb hm ⊢
  clear C hD hf hi hN hn
  have x0 : IntKind.i64.wrap ((a : Int) + 1) = ((a + 1 : Nat) : Int) := by rw [IntWalk.i64_in _ (by omega)]; omega
  go_enter Tryz.func96, Tryz.ntmps96
  go_wp2_with fail
  go_loopw [8] (fun v wr => ∃ i : Nat, ∃ E : List Nat, a < i ∧ i ≤ n + 1 ∧ v = .int .i64 (i : Int) ∧ Fg g W0 wr ∧ Dat wr g E ∧ Sp.Sorted lt D a (min i b) E) (fun v _ => n + 1 - (intOf v).toNat)
  case atStart => exact ⟨a + 1, D, by omega, by omega, rfl, HF.out, HD.out, HZ.out⟩
  case round =>
    obtain ⟨i, E, hai, hin, rfl, hf, hd, hs⟩ := hrel
    have HFI := Lib.hid hf
    have HDI := Lib.hid hd
    have HS := Lib.hid hs
    clear hf hd hs HD HF HZ x0
    have i0 : (0 : Int) ≤ (i : Int) := by omega
    by_cases hlt : i < b
    · have i1 : (i : Int) < (b : Int) := by omega
      have HS1 := Lib.hid HS.out
      rw [show min i b = i by omega] at HS1
      have hEl : E.length = n := by rw [← HLN.out]; exact HS1.out.len
      have hiE : i < E.length := by omega
      obtain ⟨x, hx⟩ : ∃ x, E[i]? = some x := ⟨_, List.getElem?_eq_getElem hiE⟩
      have HB := Lib.hid (Sp.ins_before HI.out (by omega) hlt (by have := HLN.out; omega) HS1.out hx)
      have HW := Lib.hid (Sp.ins_whole (a := a) (by omega) hiE hx)
      have HST := Lib.hid (fun t (ht : t ≤ i - a) => Sp.ins_step (t := t) HO.out (by omega) (by have := HLN.out; omega) HS1.out ht hx)
      have hPl : (E.take a).length = a := by rw [List.length_take]; omega
      have hSl : (Sp.seg E a i).length = i - a := Sp.seg_length (by omega)
      have HSS := Lib.hid HS1.out.srt
      clear hx HS HS1
      generalize E.take a = P at *
      generalize Sp.seg E a i = S at *
      generalize E.drop (i + 1) = R at *
      have HDA := Lib.hid (HDI.out.cast HW.out.symm)
      clear HW HDI hiE
      go_wp2_with fail
      obtain ⟨wo, rfl⟩ : ∃ wo : World, wo = wr := ⟨_, rfl⟩
      go_loopw [9] (fun v wr => ∃ t : Nat, t ≤ i - a ∧ v = .int .i64 ((a + t : Nat) : Int) ∧ Fg g W0 wr ∧ Dat wr g (P ++ Sp.insAt S x t ++ R) ∧ ∀ y ∈ S.drop t, lt x y) (fun v _ => (intOf v).toNat)
      case atStart => exact ⟨i - a, by omega, by go_num, HFI.out, HDA.out, fun y hy => by rw [List.drop_of_length_le (by omega)] at hy; cases hy⟩
      case round =>
        obtain ⟨t, ht, rfl, hf, hd, hy⟩ := hrel
        have HF2 := Lib.hid hf
        have HD2 := Lib.hid hd
        have HY := Lib.hid hy
        clear hf hd hy HFI HDA
        by_cases ht0 : t = 0
        · subst ht0
          have HN1 := Lib.hid (HST.out 0 (by omega) (fun y hy => by simp at hy) HY.out)
          have e0 : decide ((a : Int) < (a : Int)) = false := by simp
          rw [Nat.add_zero]
          go_wp2_with fail
          go_quiet (fail)
          go_wp2_with fail
          go_roundw
          case rel => exact ⟨i + 1, _, by omega, by omega, by go_num, Fg.drewN HF2.out _, HD2.out.drewN _, by rw [show min (i + 1) b = i + 1 by omega]; exact HN1.out⟩
          case measure => simp [intOf] <;> omega
        · obtain ⟨s, rfl⟩ : ∃ s, t = s + 1 := ⟨t - 1, by omega⟩
          have hsS : s < S.length := by omega
          have gx : (P ++ Sp.insAt S x (s + 1) ++ R)[a + (s + 1)]? = some x := Sp.ins_get hPl (by omega)
          have gy : (P ++ Sp.insAt S x (s + 1) ++ R)[a + s]? = some S[s] := Sp.ins_prev hPl hsS
          have HLF := Lib.hid (Sp.ins_left (x := x) (R := R) hPl hsS)
          have hyx := (HB.out.1 S[s] (List.getElem_mem hsS))
          obtain ⟨z, hz, hcal⟩ := HC.out S[s] x hyx.1 (HN.out x HB.out.2)
          have HCC := Lib.hid (fun wx hx => hcal wx hx)
          have HTK := Lib.hid (fun (q : lt S[s] x) => Sp.srt_take HO.out HSS.out hsS q)
          have HDP := Lib.hid (fun (q : lt x S[s]) => Sp.srt_drop HO.out HSS.out hsS q)
          have HST2 := Lib.hid (HST.out (s + 1) ht)
          have HNE := Lib.hid (show S[s] ≠ x from by have := hyx.1; omega)
          generalize S[s] = y at *
          have HDS := Lib.hid ((HD2.out.set (a + (s + 1)) y).set (a + s) x)
          rw [show a + (s + 1) = a + s + 1 from rfl, HLF.out] at HDS
          obtain ⟨cx, fx⟩ := HD2.out.get gx
          obtain ⟨cy, fy⟩ := HD2.out.get gy
          have e0 : (a : Int) < ((a + (s + 1) : Nat) : Int) := by omega
          obtain ⟨J, hJ⟩ : ∃ J, a + (s + 1) = J := ⟨_, rfl⟩
          obtain ⟨K, hK⟩ : ∃ K, a + s = K := ⟨_, rfl⟩
          have HJ := Lib.hid hJ
          have HKK := Lib.hid hK
          rw [show a + s + 1 = a + (s + 1) from rfl] at HDS
          rw [hJ] at cx fx e0 HDS ⊢
          rw [hK] at cy fy HDS
          have x1 : IntKind.i64.wrap ((J : Int) - 1) = (K : Int) := by rw [IntWalk.i64_in _ (by omega)]; omega
          have y0 : (0 : Int) ≤ (J : Int) := by omega
          have y1 : (J : Int) < (n : Int) := by omega
          have y2 : (0 : Int) ≤ (K : Int) := by omega
          have y3 : (K : Int) < (n : Int) := by omega
          have y4 : J ≠ K := by omega
          clear gx gy hJ hK hcal HLF
          by_cases hl : lt x y
          · have hz1 : z < 0 := hz.2 hl
            have HN2 := Lib.hid (HDP.out hl)
            clear hl hz HTK HDP HST2
            go_wp2_with fail
            go_quiet ((go_at_call 43; exact Calls.quiet_of (HCC.out _ (Fg.drewN HF2.out _))))
            have HD3 := Lib.hid (HD2.out.drewN nq)
            have HF3 := Lib.hid (Fg.drewN HF2.out nq)
            have HDS3 := Lib.hid (HDS.out.drewN nq)
            have cx3 : (wr.drewN nq).cell? ⟨g, J, none⟩ = some (.int .i64 (x : Int)) := cx
            have cy3 : (wr.drewN nq).cell? ⟨g, K, none⟩ = some (.int .i64 (y : Int)) := cy
            have fx3 : (wr.drewN nq).frozen? ⟨g, J, none⟩ = false := fx
            have fy3 : (wr.drewN nq).frozen? ⟨g, K, none⟩ = false := fy
            have HDX := Lib.hid (show Dat (((wr.drewN nq).setCell ⟨g, J, none⟩ (.int .i64 (y : Int))).setCell ⟨g, K, none⟩ (.int .i64 (x : Int))) g (P ++ Sp.insAt S x s ++ R) from HDS3.out)
            clear cx cy fx fy HDS HDS3 HD2 HF2
            generalize wr.drewN nq = W2 at *
            go_wp2_with fail
            go_region
            all_goals go_wp2_with fail
            go_roundw
            case rel => exact ⟨s, by omega, by rw [HKK.out], (Fg.set (Fg.set HF3.out _ _) _ _).drewN 1, HDX.out.drew, HN2.out⟩
            case measure => have := HJ.out; have := HKK.out; simp [intOf] <;> omega
          · have hz1 : 0 ≤ z := by rcases Int.lt_or_le z 0 with q | q; exact absurd (hz.1 q) hl; exact q
            have HN2 := Lib.hid (HST2.out (HTK.out (HO.out.not hl HNE.out)) HY.out)
            clear hl hz HTK HDP HST2
            go_wp2_with fail
            go_quiet ((go_at_call 43; exact Calls.quiet_of (HCC.out _ (Fg.drewN HF2.out _))))
            have HD3 := Lib.hid (HD2.out.drewN nq)
            have HF3 := Lib.hid (Fg.drewN HF2.out nq)
            clear cx cy fx fy HDS HD2 HF2
            generalize wr.drewN nq = W2 at *
            go_wp2_with fail
            go_roundw
            case rel => exact ⟨i + 1, _, by omega, by omega, by go_num, HF3.out, HD3.out, by rw [show min (i + 1) b = i + 1 by omega]; exact HN2.out⟩
            case measure => simp [intOf] <;> omega
    · have i1 : (b : Int) ≤ (i : Int) := by omega
      have HR := Lib.hid HS.out
      rw [show min i b = b by omega] at HR
      go_wp2_with fail
      go_end0
      exact ⟨rfl, HFI.out, E, HDI.out, HR.out⟩
end Go.Proofs.YtannhfnpigiggaaGreatDoor

namespace Go.Proofs.YtannhfnpigiggaaGreatDoor
set_option linter.unusedSimpArgs false
set_option linter.unusedVariables false
open Go.RowKit

set_option maxHeartbeats 8000000 in
set_option maxRecDepth 100000 in
theorem so_sym_left {N g cap : Nat} {cp : Value} {W0 w : World} {lt : Nat → Nat → Prop} (C : CmpIs cp g W0 N lt) {D : List Nat} (hD : Dat w g D) (hf : Fg g W0 w) (a b : Nat) (hg : Sp.Mg lt D a (a + 1) b) (hN : ∀ x ∈ D, x < N) (hm : D.length ≤ 1000000) :
    Calls Tryz.prog 97 #[.slice (some ⟨g, 0, none⟩) D.length cap, .int .i64 (a : Int), .int .i64 ((a + 1 : Nat) : Int), .int .i64 (b : Int), .func (.func 43) #[] #[cp]] w fun e w' => e = .returned (.tuple #[]) ∧ Fg g W0 w' ∧ ∃ D', Dat w' g D' ∧ Sp.Sorted lt D a b D' := by
  have HO := Lib.hid C.ord
  have HE := Tryz.call43
  have HC := Lib.hid C.calls
  have HD := Lib.hid hD
  have HF := Lib.hid hf
  have HG := Lib.hid hg
  have HN := Lib.hid hN
  have gb := hg.mb
  have gl := hg.bl
  obtain ⟨n, hn⟩ : ∃ n, D.length = n := ⟨_, rfl⟩
  have HLN := Lib.hid hn
  rw [hn] at gl hm ⊢
  obtain ⟨x, hx⟩ : ∃ x, D[a]? = some x := ⟨_, List.getElem?_eq_getElem (by omega)⟩
  have HX := Lib.hid hx
  clear C hD hf hg hN hn hx
  obtain ⟨m, hm1⟩ : ∃ m, a + 1 = m := ⟨_, rfl⟩
  have HM := Lib.hid hm1
  rw [hm1] at gb ⊢
  have x0 : IntKind.i64.wrap ((m : Int) - (a : Int)) = 1 := by rw [IntWalk.i64_in _ (by omega)]; omega
  have e0 : (IntKind.i64.wrap ((m : Int) - (a : Int)) == 1) = true := by rw [x0]; rfl
  clear hm1
  go_enter Tryz.func97, Tryz.ntmps97
  go_wp2_with fail
  go_loopw [10, 11] (fun vi vj wr => ∃ i j : Nat, m ≤ i ∧ i ≤ j ∧ j ≤ b ∧ vi = .int .i64 (i : Int) ∧ vj = .int .i64 (j : Int) ∧ Fg g W0 wr ∧ Dat wr g D ∧ (i = m ∨ ∃ y, D[i - 1]? = some y ∧ lt y x) ∧ (j = b ∨ ∃ y, D[j]? = some y ∧ lt x y)) (fun vi vj _ => (intOf vj).toNat - (intOf vi).toNat)
  case atStart => exact ⟨m, b, by omega, by omega, by omega, rfl, rfl, HF.out, HD.out, .inl rfl, .inl rfl⟩
  case round =>
    obtain ⟨i, j, hi, hij, hj, rfl, rfl, hf, hd, hlo, hhi⟩ := hrel
    have HFI := Lib.hid hf
    have HDI := Lib.hid hd
    have HLO := Lib.hid hlo
    have HHI := Lib.hid hhi
    clear hf hd hlo hhi HD HF
    by_cases hlt : i < j
    · have i1 : (i : Int) < (j : Int) := by omega
      obtain ⟨h, hh⟩ : ∃ h, (i + j) / 2 = h := ⟨_, rfl⟩
      have HH := Lib.hid hh
      have x1 : ((i : Int) + (j : Int)) / 2 = (h : Int) := by omega
      have hn2 := HLN.out
      obtain ⟨y, hy⟩ : ∃ y, D[h]? = some y := ⟨_, List.getElem?_eq_getElem (by omega)⟩
      have HY := Lib.hid hy
      have hm3 := HM.out
      have hxy := Sp.mg_idx HG.out (i := a) (j := h) (by omega) (by omega) (by omega) (by omega) HX.out hy
      obtain ⟨z, hz, hcal⟩ := HC.out x y hxy.1 (HN.out y hxy.2)
      have HCC := Lib.hid (fun wx hx => hcal wx hx)
      obtain ⟨cx, fx⟩ := HDI.out.get HX.out
      obtain ⟨cy, fy⟩ := HDI.out.get hy
      have y0 : (0 : Int) ≤ (h : Int) := by omega
      have y1 : (h : Int) < (n : Int) := by omega
      have y2 : (0 : Int) ≤ (a : Int) := by omega
      have y3 : (a : Int) < (n : Int) := by omega
      have hh1 : i ≤ h ∧ h < j := by omega
      clear hh hy hn2 hcal hm3
      by_cases hl : lt y x
      · have hz1 : z < 0 := hz.2 hl
        have HL := Lib.hid hl
        clear hl hz
        go_wp2_with fail
        go_quiet ((go_at_call 43; exact Calls.quiet_of (HCC.out _ (Fg.drewN HFI.out _))))
        have HD3 := Lib.hid (HDI.out.drewN nq)
        have HF3 := Lib.hid (Fg.drewN HFI.out nq)
        clear cx cy fx fy HDI HFI
        generalize wr.drewN nq = W2 at *
        go_wp2_with fail
        go_roundw
        case rel => exact ⟨h + 1, j, by omega, by omega, by omega, by go_num, rfl, HF3.out, HD3.out, .inr ⟨y, by rw [Nat.add_sub_cancel]; exact HY.out, HL.out⟩, HHI.out⟩
        case measure => simp [intOf] <;> omega
      · have hz1 : 0 ≤ z := by rcases Int.lt_or_le z 0 with q | q; exact absurd (hz.1 q) hl; exact q
        have HL := Lib.hid (HO.out.not hl (by omega))
        clear hl hz
        go_wp2_with fail
        go_quiet ((go_at_call 43; exact Calls.quiet_of (HCC.out _ (Fg.drewN HFI.out _))))
        have HD3 := Lib.hid (HDI.out.drewN nq)
        have HF3 := Lib.hid (Fg.drewN HFI.out nq)
        clear cx cy fx fy HDI HFI
        generalize wr.drewN nq = W2 at *
        go_wp2_with fail
        go_roundw
        case rel => exact ⟨i, h, by omega, by omega, by omega, rfl, rfl, HF3.out, HD3.out, HLO.out, .inr ⟨y, HY.out, HL.out⟩⟩
        case measure => simp [intOf] <;> omega
    · have i1 : (j : Int) ≤ (i : Int) := by omega
      obtain rfl : i = j := by omega
      have hm3 := HM.out
      have HW := Lib.hid (Sp.left_whole (b := b) (by omega) (by have := HLN.out; omega) HX.out)
      have HS := Lib.hid (Sp.merge_left (b := b) (t := i - m) HO.out HG.out HX.out (by omega) (by
        rcases HLO.out with q | q
        · exact .inl (by omega)
        · rw [show a + 1 + (i - m) - 1 = i - 1 by omega]; exact .inr q) (by
        rcases HHI.out with q | q
        · exact .inl (by omega)
        · rw [show a + 1 + (i - m) = i by omega]; exact .inr q))
      rw [hm3] at HW HS
      have hPl : (D.take a).length = a := by rw [List.length_take]; have := HLN.out; omega
      have hSl : (Sp.seg D m b).length = b - m := Sp.seg_length (by have := HLN.out; omega)
      clear HLO HHI HG
      generalize D.take a = P at *
      generalize Sp.seg D m b = S at *
      generalize D.drop b = R at *
      have HDA := Lib.hid (HDI.out.cast HW.out.symm)
      clear HW HDI
      have x1 : IntKind.i64.wrap ((i : Int) - 1) = (i : Int) - 1 := IntWalk.i64_in _ (by omega)
      obtain ⟨wo, rfl⟩ : ∃ wo : World, wo = wr := ⟨_, rfl⟩
      go_wp2_with fail
      go_loopw [13] (fun v wr => ∃ t : Nat, t ≤ i - m ∧ v = .int .i64 ((a + t : Nat) : Int) ∧ Fg g W0 wr ∧ Dat wr g (P ++ Sp.insAt S x t ++ R)) (fun v _ => i - (intOf v).toNat)
      case atStart => exact ⟨0, by omega, by go_num, HFI.out, HDA.out⟩
      case round =>
        obtain ⟨t, ht, rfl, hf, hd⟩ := hrel
        have HF2 := Lib.hid hf
        have HD2 := Lib.hid hd
        clear hf hd HFI HDA
        by_cases hlt2 : t < i - m
        · have htS : t < S.length := by omega
          have gx : (P ++ Sp.insAt S x t ++ R)[a + t]? = some x := Sp.ins_get hPl (by omega)
          have gy : (P ++ Sp.insAt S x t ++ R)[a + t + 1]? = some S[t] := Sp.ins_next hPl htS
          have HRF := Lib.hid (Sp.ins_right (x := x) (R := R) hPl htS)
          generalize S[t] = y at *
          have HDS := Lib.hid ((HD2.out.set (a + t) y).set (a + t + 1) x)
          rw [HRF.out] at HDS
          obtain ⟨cx, fx⟩ := HD2.out.get gx
          obtain ⟨cy, fy⟩ := HD2.out.get gy
          obtain ⟨J, hJ⟩ : ∃ J, a + t = J := ⟨_, rfl⟩
          have HJ := Lib.hid hJ
          rw [hJ] at cx fx cy fy HDS ⊢
          have y0 : (0 : Int) ≤ (J : Int) := by omega
          have y1 : (J : Int) < (n : Int) := by omega
          have y2 : (0 : Int) ≤ ((J + 1 : Nat) : Int) := by omega
          have y3 : ((J + 1 : Nat) : Int) < (n : Int) := by omega
          have y4 : J ≠ J + 1 := by omega
          have y5 : (J : Int) < (i : Int) - 1 := by omega
          have x2 : IntKind.i64.wrap ((J : Int) + 1) = ((J + 1 : Nat) : Int) := by rw [IntWalk.i64_in _ (by omega)]; omega
          clear gx gy hJ HRF
          go_wp2_with fail
          go_region
          all_goals go_wp2_with fail
          go_roundw
          case rel => exact ⟨t + 1, by omega, by have := HJ.out; go_num, (Fg.set (Fg.set HF2.out _ _) _ _).drewN 1, HDS.out.drew⟩
          case measure => have := HJ.out; simp [intOf] <;> omega
        · obtain rfl : t = i - m := by omega
          have y5 : (i : Int) - 1 ≤ ((a + (i - m) : Nat) : Int) := by omega
          go_wp2_with fail
          refine bodyPost_ret (results_none rfl _ _ _) rfl ?_
          exact ⟨rfl, HF2.out, _, HD2.out, HS.out⟩
end Go.Proofs.YtannhfnpigiggaaGreatDoor

namespace Go.Proofs.YtannhfnpigiggaaGreatDoor
set_option linter.unusedSimpArgs false
set_option linter.unusedVariables false
open Go.RowKit

set_option maxHeartbeats 8000000 in
set_option maxRecDepth 100000 in
theorem so_sym_right {N g cap : Nat} {cp : Value} {W0 w : World} {lt : Nat → Nat → Prop} (C : CmpIs cp g W0 N lt) {D : List Nat} (hD : Dat w g D) (hf : Fg g W0 w) (a m : Nat) (hg : Sp.Mg lt D a m (m + 1)) (ham : a + 1 ≠ m) (hN : ∀ x ∈ D, x < N) (hm : D.length ≤ 1000000) :
    Calls Tryz.prog 97 #[.slice (some ⟨g, 0, none⟩) D.length cap, .int .i64 (a : Int), .int .i64 (m : Int), .int .i64 ((m + 1 : Nat) : Int), .func (.func 43) #[] #[cp]] w fun e w' => e = .returned (.tuple #[]) ∧ Fg g W0 w' ∧ ∃ D', Dat w' g D' ∧ Sp.Sorted lt D a (m + 1) D' := by
  have HO := Lib.hid C.ord
  have HE := Tryz.call43
  have HC := Lib.hid C.calls
  have HD := Lib.hid hD
  have HF := Lib.hid hf
  have HG := Lib.hid hg
  have HN := Lib.hid hN
  have gm := hg.am
  have gl := hg.bl
  obtain ⟨n, hn⟩ : ∃ n, D.length = n := ⟨_, rfl⟩
  have HLN := Lib.hid hn
  rw [hn] at gl hm ⊢
  obtain ⟨x, hx⟩ : ∃ x, D[m]? = some x := ⟨_, List.getElem?_eq_getElem (by omega)⟩
  have HX := Lib.hid hx
  clear C hD hf hg hN hn hx
  obtain ⟨b, hb1⟩ : ∃ b, m + 1 = b := ⟨_, rfl⟩
  have HB := Lib.hid hb1
  rw [hb1] at gl ⊢
  have x0 : IntKind.i64.wrap ((m : Int) - (a : Int)) = (m : Int) - (a : Int) := IntWalk.i64_in _ (by omega)
  have e0 : ((m : Int) - (a : Int) == 1) = false := beq_eq_false_iff_ne.2 (by omega)
  have x01 : IntKind.i64.wrap ((b : Int) - (m : Int)) = 1 := by rw [IntWalk.i64_in _ (by omega)]; omega
  have e01 : (IntKind.i64.wrap ((b : Int) - (m : Int)) == 1) = true := by rw [x01]; rfl
  have hmn : m < n := by omega
  clear hb1
  go_enter Tryz.func97, Tryz.ntmps97
  go_wp2_with fail
  go_loopw [14, 15] (fun vi vj wr => ∃ i j : Nat, a ≤ i ∧ i ≤ j ∧ j ≤ m ∧ vi = .int .i64 (i : Int) ∧ vj = .int .i64 (j : Int) ∧ Fg g W0 wr ∧ Dat wr g D ∧ (i = a ∨ ∃ y, D[i - 1]? = some y ∧ lt y x) ∧ (j = m ∨ ∃ y, D[j]? = some y ∧ lt x y)) (fun vi vj _ => (intOf vj).toNat - (intOf vi).toNat)
  case atStart => exact ⟨a, m, by omega, by omega, by omega, rfl, rfl, HF.out, HD.out, .inl rfl, .inl rfl⟩
  case round =>
    obtain ⟨i, j, hi, hij, hj, rfl, rfl, hf, hd, hlo, hhi⟩ := hrel
    have HFI := Lib.hid hf
    have HDI := Lib.hid hd
    have HLO := Lib.hid hlo
    have HHI := Lib.hid hhi
    clear hf hd hlo hhi HD HF
    by_cases hlt : i < j
    · have i1 : (i : Int) < (j : Int) := by omega
      obtain ⟨h, hh⟩ : ∃ h, (i + j) / 2 = h := ⟨_, rfl⟩
      have HH := Lib.hid hh
      have x1 : ((i : Int) + (j : Int)) / 2 = (h : Int) := by omega
      have hn2 := HLN.out
      obtain ⟨y, hy⟩ : ∃ y, D[h]? = some y := ⟨_, List.getElem?_eq_getElem (by omega)⟩
      have HY := Lib.hid hy
      have hxy := Sp.mg_idx HG.out (i := h) (j := m) (by omega) (by omega) (by omega) (by omega) hy HX.out
      obtain ⟨z, hz, hcal⟩ := HC.out y x hxy.1 (HN.out x hxy.2)
      have HCC := Lib.hid (fun wx hx => hcal wx hx)
      obtain ⟨cx, fx⟩ := HDI.out.get HX.out
      obtain ⟨cy, fy⟩ := HDI.out.get hy
      have y0 : (0 : Int) ≤ (h : Int) := by omega
      have y1 : (h : Int) < (n : Int) := by omega
      have y2 : (0 : Int) ≤ (m : Int) := by omega
      have y3 : (m : Int) < (n : Int) := by omega
      have hh1 : i ≤ h ∧ h < j := by omega
      clear hh hy hn2 hcal
      by_cases hl : lt x y
      · have hz1 : z < 0 := hz.2 hl
        have hz2 : decide (z < 0) = true := decide_eq_true hz1
        have HL := Lib.hid hl
        clear hl hz
        go_wp2_with fail
        go_quiet ((go_at_call 43; exact Calls.quiet_of (HCC.out _ (Fg.drewN HFI.out _))))
        have HD3 := Lib.hid (HDI.out.drewN nq)
        have HF3 := Lib.hid (Fg.drewN HFI.out nq)
        clear cx cy fx fy HDI HFI
        generalize wr.drewN nq = W2 at *
        go_wp2_with fail
        go_roundw
        case rel => exact ⟨i, h, by omega, by omega, by omega, rfl, rfl, HF3.out, HD3.out, HLO.out, .inr ⟨y, HY.out, HL.out⟩⟩
        case measure => simp [intOf] <;> omega
      · have hz1 : 0 ≤ z := by rcases Int.lt_or_le z 0 with q | q; exact absurd (hz.1 q) hl; exact q
        have hz2 : decide (z < 0) = false := decide_eq_false (by omega)
        have HL := Lib.hid (HO.out.not hl (by omega))
        clear hl hz
        go_wp2_with fail
        go_quiet ((go_at_call 43; exact Calls.quiet_of (HCC.out _ (Fg.drewN HFI.out _))))
        have HD3 := Lib.hid (HDI.out.drewN nq)
        have HF3 := Lib.hid (Fg.drewN HFI.out nq)
        clear cx cy fx fy HDI HFI
        generalize wr.drewN nq = W2 at *
        go_wp2_with fail
        go_roundw
        case rel => exact ⟨h + 1, j, by omega, by omega, by omega, by go_num, rfl, HF3.out, HD3.out, .inr ⟨y, by rw [Nat.add_sub_cancel]; exact HY.out, HL.out⟩, HHI.out⟩
        case measure => simp [intOf] <;> omega
    · have i1 : (j : Int) ≤ (i : Int) := by omega
      obtain rfl : i = j := by omega
      have HW := Lib.hid (Sp.ins_whole (D' := D) (a := a) (i := m) (x := x) (by omega) (by have := HLN.out; omega) HX.out)
      have HS := Lib.hid (Sp.merge_right (t := i - a) HO.out HG.out HX.out (by omega) (by
        rcases HLO.out with q | q
        · exact .inl (by omega)
        · rw [show a + (i - a) - 1 = i - 1 by omega]; exact .inr q) (by
        rcases HHI.out with q | q
        · exact .inl (by omega)
        · rw [show a + (i - a) = i by omega]; exact .inr q))
      have hPl : (D.take a).length = a := by rw [List.length_take]; have := HLN.out; omega
      have hSl : (Sp.seg D a m).length = m - a := Sp.seg_length (by have := HLN.out; omega)
      rw [HB.out] at HW HS
      clear HLO HHI HG
      generalize D.take a = P at *
      generalize Sp.seg D a m = S at *
      generalize D.drop b = R at *
      have HDA := Lib.hid (HDI.out.cast HW.out.symm)
      clear HW HDI
      obtain ⟨wo, rfl⟩ : ∃ wo : World, wo = wr := ⟨_, rfl⟩
      go_wp2_with fail
      go_loopw [17] (fun v wr => ∃ t : Nat, i ≤ a + t ∧ t ≤ m - a ∧ v = .int .i64 ((a + t : Nat) : Int) ∧ Fg g W0 wr ∧ Dat wr g (P ++ Sp.insAt S x t ++ R)) (fun v _ => (intOf v).toNat)
      case atStart => exact ⟨m - a, by omega, by omega, by go_num, HFI.out, HDA.out⟩
      case round =>
        obtain ⟨t, hti, ht, rfl, hf, hd⟩ := hrel
        have HF2 := Lib.hid hf
        have HD2 := Lib.hid hd
        clear hf hd HFI HDA
        by_cases hlt2 : i < a + t
        · obtain ⟨s, rfl⟩ : ∃ s, t = s + 1 := ⟨t - 1, by omega⟩
          have htS : s < S.length := by omega
          have gx : (P ++ Sp.insAt S x (s + 1) ++ R)[a + (s + 1)]? = some x := Sp.ins_get hPl (by omega)
          have gy : (P ++ Sp.insAt S x (s + 1) ++ R)[a + s]? = some S[s] := Sp.ins_prev hPl htS
          have HRF := Lib.hid (Sp.ins_left (x := x) (R := R) hPl htS)
          generalize S[s] = y at *
          have HDS := Lib.hid ((HD2.out.set (a + (s + 1)) y).set (a + s) x)
          rw [show a + (s + 1) = a + s + 1 from rfl, HRF.out] at HDS
          rw [show a + s + 1 = a + (s + 1) from rfl] at HDS
          obtain ⟨cx, fx⟩ := HD2.out.get gx
          obtain ⟨cy, fy⟩ := HD2.out.get gy
          obtain ⟨J, hJ⟩ : ∃ J, a + (s + 1) = J := ⟨_, rfl⟩
          obtain ⟨K, hK⟩ : ∃ K, a + s = K := ⟨_, rfl⟩
          have HJ := Lib.hid hJ
          have HKK := Lib.hid hK
          rw [hJ] at cx fx HDS ⊢
          rw [hK] at cy fy HDS
          have y0 : (0 : Int) ≤ (J : Int) := by omega
          have y1 : (J : Int) < (n : Int) := by omega
          have y2 : (0 : Int) ≤ (K : Int) := by omega
          have y3 : (K : Int) < (n : Int) := by omega
          have y4 : J ≠ K := by omega
          have y5 : (i : Int) < (J : Int) := by omega
          have x2 : IntKind.i64.wrap ((J : Int) - 1) = (K : Int) := by rw [IntWalk.i64_in _ (by omega)]; omega
          clear gx gy hJ hK HRF
          go_wp2_with fail
          go_region
          all_goals go_wp2_with fail
          go_roundw
          case rel => exact ⟨s, by omega, by omega, by rw [HKK.out], (Fg.set (Fg.set HF2.out _ _) _ _).drewN 1, HDS.out.drew⟩
          case measure => have := HJ.out; have := HKK.out; simp [intOf] <;> omega
        · obtain rfl : t = i - a := by omega
          have y5 : ((a + (i - a) : Nat) : Int) ≤ (i : Int) := by omega
          go_wp2_with fail
          refine bodyPost_ret (results_none rfl _ _ _) rfl ?_
          exact ⟨rfl, HF2.out, _, HD2.out, HS.out⟩
end Go.Proofs.YtannhfnpigiggaaGreatDoor

namespace Go.Proofs.YtannhfnpigiggaaGreatDoor
set_option linter.unusedSimpArgs false
set_option linter.unusedVariables false
open Go.RowKit

/-- Merges of at most so many cells. -/
def SymOk (cp : Value) (g : Nat) (W0 : World) (N : Nat) (lt : Nat → Nat → Prop) (n cap s : Nat) : Prop :=
  ∀ (w : World) (D : List Nat) (a m b : Nat), b - a ≤ s → Dat w g D → Fg g W0 w → Sp.Mg lt D a m b → (∀ x ∈ D, x < N) → D.length = n →
    Calls Tryz.prog 97 #[.slice (some ⟨g, 0, none⟩) n cap, .int .i64 (a : Int), .int .i64 (m : Int), .int .i64 (b : Int), .func (.func 43) #[] #[cp]] w fun e w' => e = .returned (.tuple #[]) ∧ Fg g W0 w' ∧ ∃ D', Dat w' g D' ∧ Sp.Sorted lt D a b D'
theorem Og.fg {g : Nat} {W w w' : World} (h : Fg g W w) (k : Og g w w') : Fg g W w' := Fr.trans h k.2 (fun i hi => .inl hi)
set_option maxHeartbeats 32000000 in
set_option maxRecDepth 100000 in
theorem so_sym_cut {N g cap n : Nat} {cp : Value} {W0 w : World} {lt : Nat → Nat → Prop} (C : CmpIs cp g W0 N lt) {s0 : Nat} (ih : SymOk cp g W0 N lt n cap s0) {D : List Nat} (hD : Dat w g D) (hf : Fg g W0 w) (a m b : Nat) (hg : Sp.Mg lt D a m b) (ham : a + 1 ≠ m) (hmb : m + 1 ≠ b) (hs0 : b - a ≤ s0 + 1) (hN : ∀ x ∈ D, x < N) (hn : D.length = n) (hm : n ≤ 1000000) :
    Calls Tryz.prog 97 #[.slice (some ⟨g, 0, none⟩) n cap, .int .i64 (a : Int), .int .i64 (m : Int), .int .i64 (b : Int), .func (.func 43) #[] #[cp]] w fun e w' => e = .returned (.tuple #[]) ∧ Fg g W0 w' ∧ ∃ D', Dat w' g D' ∧ Sp.Sorted lt D a b D' := by
  have HO := Lib.hid C.ord
  have HE := Tryz.call43
  have HC := Lib.hid C.calls
  have HD := Lib.hid hD
  have HF := Lib.hid hf
  have HG := Lib.hid hg
  have HN := Lib.hid hN
  have HIH := Lib.hid ih
  have gm := hg.am
  have gb := hg.mb
  have gl := hg.bl
  have HLN := Lib.hid hn
  rw [hn] at gl
  have hst := Sp.CutAt.start hg
  have HMG := Lib.hid (fun i j y z => Sp.mg_idx (i := i) (j := j) (y := y) (z := z) hg)
  clear C hD hf hg hN hn ih
  obtain ⟨M, hM⟩ : ∃ M, (a + b) / 2 = M := ⟨_, rfl⟩
  have HM := Lib.hid hM
  have x0 : IntKind.i64.wrap ((m : Int) - (a : Int)) = (m : Int) - (a : Int) := IntWalk.i64_in _ (by omega)
  have e0 : ((m : Int) - (a : Int) == 1) = false := beq_eq_false_iff_ne.2 (by omega)
  have x01 : IntKind.i64.wrap ((b : Int) - (m : Int)) = (b : Int) - (m : Int) := IntWalk.i64_in _ (by omega)
  have e01 : ((b : Int) - (m : Int) == 1) = false := beq_eq_false_iff_ne.2 (by omega)
  have x1 : ((a : Int) + (b : Int)) / 2 = (M : Int) := by omega
  obtain ⟨Q, hQ⟩ : ∃ Q, M + m = Q := ⟨_, rfl⟩
  have HQ := Lib.hid hQ
  have x2 : IntKind.i64.wrap ((M : Int) + (m : Int)) = (Q : Int) := by rw [IntWalk.i64_in _ (by omega)]; omega
  have x4 : IntKind.i64.wrap ((Q : Int) - 1) = ((Q - 1 : Nat) : Int) := by rw [IntWalk.i64_in _ (by omega)]; omega
  have hMb : a ≤ M ∧ M < b ∧ b + a ≤ 2 * M + 1 ∧ 2 * M ≤ a + b := by omega
  have hcut : (∃ s r, (M < m ∧ s = Q - b ∧ r = M ∨ m ≤ M ∧ s = a ∧ r = m) ∧ Sp.CutAt lt D a m b s r) := by
    rw [hM, hQ] at hst
    split at hst
    · exact ⟨_, _, .inl ⟨by assumption, rfl, rfl⟩, hst⟩
    · exact ⟨_, _, .inr ⟨by omega, rfl, rfl⟩, hst⟩
  clear hst
  have HMQ := Lib.hid (show (a + b) / 2 + m = Q from by rw [hM, hQ])
  clear hM hQ
  obtain ⟨s1, r1, hcs, hc1⟩ := hcut
  have HC1 := Lib.hid hc1
  clear hc1
  go_enter Tryz.func97, Tryz.ntmps97
  have hcs2 : (decide ((M : Int) < (m : Int)) = true ∧ Q - b = s1 ∧ M = r1) ∨ (decide ((M : Int) < (m : Int)) = false ∧ a = s1 ∧ m = r1) := by
    rcases hcs with ⟨h1, h2, h3⟩ | ⟨h1, h2, h3⟩
    · exact .inl ⟨decide_eq_true (by omega), h2.symm, h3.symm⟩
    · exact .inr ⟨decide_eq_false (by omega), h2.symm, h3.symm⟩
  rcases hcs2 with ⟨t1, t2, t3⟩ | ⟨t1, t2, t3⟩
  · have HT2 := Lib.hid t2
    have HT3 := Lib.hid t3
    clear t2 t3
    have t4 : (M : Int) < (m : Int) := by simpa using t1
    have x3 : IntKind.i64.wrap ((Q : Int) - (b : Int)) = ((Q - b : Nat) : Int) := by rw [IntWalk.i64_in _ (by have := HQ.out; omega)]; have := HQ.out; omega
    go_wp2_with fail
    go_loopw [20, 21] (fun vs vr wr => ∃ s r : Nat, Sp.CutAt lt D a m b s r ∧ vs = .int .i64 (s : Int) ∧ vr = .int .i64 (r : Int) ∧ Fg g W0 wr ∧ Dat wr g D) (fun vs vr _ => (intOf vr).toNat - (intOf vs).toNat)
    case atStart => exact ⟨_, _, HC1.out, by rw [HT2.out], by rw [HT3.out], HF.out, HD.out⟩
    case round =>
      obtain ⟨s, r, hc, rfl, rfl, hf, hd⟩ := hrel
      have HFI := Lib.hid hf
      have HDI := Lib.hid hd
      have HC2 := Lib.hid hc
      have c1 := hc.sr
      have c2 := hc.as
      have c3 := hc.ns
      have c4 := hc.rm
      have c5 := hc.rd
      rw [HMQ.out] at c3
      rw [HM.out] at c5
      clear hc hf hd HD HF HC1
      have hqm := HQ.out
      by_cases hlt : s < r
      · have i1 : (s : Int) < (r : Int) := by omega
        obtain ⟨c, hcc⟩ : ∃ c, (s + r) / 2 = c := ⟨_, rfl⟩
        have HCC0 := Lib.hid hcc
        have x5 : ((s : Int) + (r : Int)) / 2 = (c : Int) := by omega
        have x6 : IntKind.i64.wrap (((Q - 1 : Nat) : Int) - (c : Int)) = ((Q - 1 - c : Nat) : Int) := by rw [IntWalk.i64_in _ (by omega)]; omega
        have hn2 := HLN.out
        obtain ⟨y, hy⟩ : ∃ y, D[c]? = some y := ⟨_, List.getElem?_eq_getElem (by omega)⟩
        obtain ⟨u, hu⟩ : ∃ u, D[Q - 1 - c]? = some u := ⟨_, List.getElem?_eq_getElem (by omega)⟩
        have HY := Lib.hid hy
        have HU := Lib.hid hu
        have hxy := HMG.out c (Q - 1 - c) y u (by omega) (by omega) (by omega) (by omega) hy hu
        obtain ⟨z, hz, hcal⟩ := HC.out y u hxy.1 (HN.out u hxy.2)
        have HCC := Lib.hid (fun wx hx => hcal wx hx)
        obtain ⟨cx, fx⟩ := HDI.out.get hu
        obtain ⟨cy, fy⟩ := HDI.out.get hy
        obtain ⟨J, hJ⟩ : ∃ J, Q - 1 - c = J := ⟨_, rfl⟩
        have HJ := Lib.hid hJ
        have y0 : (0 : Int) ≤ (c : Int) := by omega
        have y1 : (c : Int) < (n : Int) := by omega
        have y2 : (0 : Int) ≤ (J : Int) := by omega
        have y3 : (J : Int) < (n : Int) := by omega
        have hh1 : s ≤ c ∧ c < r := by omega
        have HJQ := Lib.hid (show (a + b) / 2 + m - 1 - (s + r) / 2 = J from by rw [HMQ.out, hcc, hJ])
        rw [hJ] at x6 cx fx hu
        have HU2 := Lib.hid hu
        clear hcc hy hu hn2 hcal hJ hqm HU
        by_cases hl : lt u y
        · have hz1 : z < 0 := hz.2 hl
          have hz2 : decide (z < 0) = true := decide_eq_true hz1
          have HL := Lib.hid (HC2.out.down hlt (by rw [HCC0.out]; exact HY.out) (by rw [HJQ.out]; exact HU2.out) hl)
          rw [HCC0.out] at HL
          clear hl hz
          go_wp2_with fail
          go_quiet ((go_at_call 43; exact Calls.quiet_of (HCC.out _ (Fg.drewN HFI.out _))))
          have HD3 := Lib.hid (HDI.out.drewN nq)
          have HF3 := Lib.hid (Fg.drewN HFI.out nq)
          clear cx cy fx fy HDI HFI
          generalize wr.drewN nq = W2 at *
          go_wp2_with fail
          go_roundw
          case rel => exact ⟨s, c, HL.out, rfl, rfl, HF3.out, HD3.out⟩
          case measure => simp [intOf] <;> omega
        · have hz1 : 0 ≤ z := by rcases Int.lt_or_le z 0 with q | q; exact absurd (hz.1 q) hl; exact q
          have hz2 : decide (z < 0) = false := decide_eq_false (by omega)
          have HL := Lib.hid (HC2.out.up hlt (by rw [HCC0.out]; exact HY.out) (by rw [HJQ.out]; exact HU2.out) (HO.out.not hl (by omega)))
          rw [HCC0.out] at HL
          clear hl hz
          go_wp2_with fail
          go_quiet ((go_at_call 43; exact Calls.quiet_of (HCC.out _ (Fg.drewN HFI.out _))))
          have HD3 := Lib.hid (HDI.out.drewN nq)
          have HF3 := Lib.hid (Fg.drewN HFI.out nq)
          clear cx cy fx fy HDI HFI
          generalize wr.drewN nq = W2 at *
          go_wp2_with fail
          go_roundw
          case rel => exact ⟨c + 1, r, HL.out, by go_num, rfl, HF3.out, HD3.out⟩
          case measure => simp [intOf] <;> omega
      · have i1 : (r : Int) ≤ (s : Int) := by omega
        obtain rfl : s = r := by omega
        have HCT := Lib.hid (HC2.out.done HG.out)
        obtain ⟨e, he⟩ : ∃ e, Q - s = e := ⟨_, rfl⟩
        rw [HMQ.out, he] at HCT
        have x7 : IntKind.i64.wrap ((Q : Int) - (s : Int)) = (e : Int) := by rw [IntWalk.i64_in _ (by omega)]; omega
        have hse : s + e = M + m := by omega
        have hel : m ≤ e ∧ e ≤ b := by omega
        have hn2 := HLN.out
        have HRT := Lib.hid (fun (wx : World) (hd : Dat wx g D) (h1 : s < m) (h2 : m < e) => so_rot (cap := cap) (T := D.take s ++ Sp.seg D m e ++ Sp.seg D s m ++ D.drop e) hd (.func (.func 43) #[] #[cp]) s m e h1 h2 (by omega) (by omega) rfl)
        have HR0 := Lib.hid (show Sp.Rot D s m e (D.take s ++ Sp.seg D m e ++ Sp.seg D s m ++ D.drop e) from rfl)
        rw [hn2] at HRT
        have HRS := Lib.hid (fun (h : s = m ∨ m = e) => Sp.Rot.skip (D := D) (by omega) hel.1 (by omega) h)
        have HKP := Lib.hid (fun (D1 : List Nat) (hr : Sp.Rot D s m e D1) => (Sp.rot_parts (a := a) (b := b) c2 c4 hel.1 hel.2 (by omega) hr).1)
        have HFS := Lib.hid (fun (D1 : List Nat) (hr : Sp.Rot D s m e D1) h => Sp.cut_first HG.out HCT.out hr h)
        have HSC := Lib.hid (fun (D1 D2 : List Nat) (hr : Sp.Rot D s m e D1) h k => Sp.cut_second (D2 := D2) HG.out HCT.out hr h k)
        have HFN := Lib.hid (fun (D1 D2 D3 : List Nat) (hr : Sp.Rot D s m e D1) h k => Sp.cut_merge (D2 := D2) (D3 := D3) HO.out HG.out HCT.out hr h k)
        rw [HM.out] at HFS HSC HFN
        have HMM := Lib.hid HN.out
        clear hqm HQ x0 e0 x01 e01 x1 x2 x4 he HC HMG HO HC2 HCT hn2 hcs t1 t4 HT2 HT3
        generalize D.take s ++ Sp.seg D m e ++ Sp.seg D s m ++ D.drop e = T at *
        by_cases qA : s < m
        · by_cases qB : m < e
          · by_cases qC : a < s
            · by_cases qE : e < b
              · have a1 : decide ((s : Int) < (m : Int)) = true := decide_eq_true (by omega)
                have a2 : decide ((m : Int) < (e : Int)) = true := decide_eq_true (by omega)
                have a3 : decide ((a : Int) < (s : Int)) = true := decide_eq_true (by omega)
                have a4 : decide ((s : Int) < (M : Int)) = true := decide_eq_true (by omega)
                have a5 : decide ((M : Int) < (e : Int)) = true := decide_eq_true (by omega)
                have a6 : decide ((e : Int) < (b : Int)) = true := decide_eq_true (by omega)
                have HR1 := Lib.hid (HRT.out wr HDI.out (by omega) (by omega))
                have HRR := Lib.hid HR0.out
                have HK1 := Lib.hid (HKP.out _ HRR.out)
                have HN1 := Lib.hid (fun x hx => HMM.out x (HK1.out.mem (by omega) x hx))
                have HL1 := Lib.hid (HK1.out.len.trans HLN.out)
                have HM1 := Lib.hid (HFS.out _ HRR.out (by omega))
                have HI1 := Lib.hid (fun (wx : World) (hd : Dat wx g T) (hf : Fg g W0 wx) => HIH.out wx T a s M (by omega) hd hf HM1.out HN1.out HL1.out)
                clear HRT HRS HKP HFS HR0
                go_wp2_with (first | (go_at_call 117; (with_reducible refine HR1.out.mono ?_); rintro e2 w2 ⟨rfl, hk2, hd2⟩; have HFX := Lib.hid (Og.fg HFI.out hk2); have HDX := Lib.hid hd2; clear hk2 hd2) | (go_at_call 97; (with_reducible refine (HI1.out _ HDX.out HFX.out).mono ?_); rintro e3 w3 ⟨rfl, hf3, D2, hd3, hs3⟩; have HFY := Lib.hid hf3; have HDY := Lib.hid hd3; have HS3 := Lib.hid hs3; have HMS := Lib.hid (HSC.out _ D2 HRR.out ⟨hs3.len, hs3.suf⟩ (by omega)); have HI2 := Lib.hid (fun (wx : World) (hd : Dat wx g D2) (hf : Fg g W0 wx) => HIH.out wx D2 M e b (by omega) hd hf HMS.out (fun x hx => HN1.out x (hs3.kept.mem (by omega) x hx)) (hs3.len.trans HL1.out)); clear hf3 hd3 hs3) | (go_at_call 97; (with_reducible refine (HI2.out _ HDY.out HFY.out).mono ?_); rintro e4 w4 ⟨rfl, hf4, D3, hd4, hs4⟩; have HFZ := Lib.hid hf4; have HDZ := Lib.hid hd4; have HS4 := Lib.hid hs4; clear hf4 hd4 hs4))
                go_end0
                exact ⟨rfl, HFZ.out, _, HDZ.out, HFN.out _ _ _ HRR.out ⟨fun _ => HS3.out, fun h => absurd ⟨by omega, by omega⟩ h⟩ ⟨fun _ => HS4.out, fun h => absurd ⟨by omega, by omega⟩ h⟩⟩
              · have a1 : decide ((s : Int) < (m : Int)) = true := decide_eq_true (by omega)
                have a2 : decide ((m : Int) < (e : Int)) = true := decide_eq_true (by omega)
                have a3 : decide ((a : Int) < (s : Int)) = true := decide_eq_true (by omega)
                have a4 : decide ((s : Int) < (M : Int)) = true := decide_eq_true (by omega)
                have a5 : decide ((M : Int) < (e : Int)) = true := decide_eq_true (by omega)
                have a6 : decide ((e : Int) < (b : Int)) = false := decide_eq_false (by omega)
                have HR1 := Lib.hid (HRT.out wr HDI.out (by omega) (by omega))
                have HRR := Lib.hid HR0.out
                have HK1 := Lib.hid (HKP.out _ HRR.out)
                have HN1 := Lib.hid (fun x hx => HMM.out x (HK1.out.mem (by omega) x hx))
                have HL1 := Lib.hid (HK1.out.len.trans HLN.out)
                have HM1 := Lib.hid (HFS.out _ HRR.out (by omega))
                have HI1 := Lib.hid (fun (wx : World) (hd : Dat wx g T) (hf : Fg g W0 wx) => HIH.out wx T a s M (by omega) hd hf HM1.out HN1.out HL1.out)
                clear HRT HRS HKP HFS HR0 HSC HIH
                go_wp2_with (first | (go_at_call 117; (with_reducible refine HR1.out.mono ?_); rintro e2 w2 ⟨rfl, hk2, hd2⟩; have HFX := Lib.hid (Og.fg HFI.out hk2); have HDX := Lib.hid hd2; clear hk2 hd2) | (go_at_call 97; (with_reducible refine (HI1.out _ HDX.out HFX.out).mono ?_); rintro e3 w3 ⟨rfl, hf3, D2, hd3, hs3⟩; have HFY := Lib.hid hf3; have HDY := Lib.hid hd3; have HS3 := Lib.hid hs3; clear hf3 hd3 hs3))
                go_end0
                exact ⟨rfl, HFY.out, _, HDY.out, HFN.out _ _ _ HRR.out ⟨fun _ => HS3.out, fun h => absurd ⟨by omega, by omega⟩ h⟩ ⟨fun h => absurd h (by omega), fun _ => rfl⟩⟩
            · by_cases qE : e < b
              · have a1 : decide ((s : Int) < (m : Int)) = true := decide_eq_true (by omega)
                have a2 : decide ((m : Int) < (e : Int)) = true := decide_eq_true (by omega)
                have a3 : decide ((a : Int) < (s : Int)) = false := decide_eq_false (by omega)
                have a4 : decide ((s : Int) < (M : Int)) = true := decide_eq_true (by omega)
                have a5 : decide ((M : Int) < (e : Int)) = true := decide_eq_true (by omega)
                have a6 : decide ((e : Int) < (b : Int)) = true := decide_eq_true (by omega)
                have HR1 := Lib.hid (HRT.out wr HDI.out (by omega) (by omega))
                have HRR := Lib.hid HR0.out
                have HK1 := Lib.hid (HKP.out _ HRR.out)
                have HN1 := Lib.hid (fun x hx => HMM.out x (HK1.out.mem (by omega) x hx))
                have HL1 := Lib.hid (HK1.out.len.trans HLN.out)
                have HMS := Lib.hid (HSC.out _ T HRR.out ⟨rfl, rfl⟩ (by omega))
                have HI2 := Lib.hid (fun (wx : World) (hd : Dat wx g T) (hf : Fg g W0 wx) => HIH.out wx T M e b (by omega) hd hf HMS.out HN1.out HL1.out)
                clear HRT HRS HKP HFS HR0 HSC HIH
                go_wp2_with (first | (go_at_call 117; (with_reducible refine HR1.out.mono ?_); rintro e2 w2 ⟨rfl, hk2, hd2⟩; have HFX := Lib.hid (Og.fg HFI.out hk2); have HDX := Lib.hid hd2; clear hk2 hd2) | (go_at_call 97; (with_reducible refine (HI2.out _ HDX.out HFX.out).mono ?_); rintro e4 w4 ⟨rfl, hf4, D3, hd4, hs4⟩; have HFZ := Lib.hid hf4; have HDZ := Lib.hid hd4; have HS4 := Lib.hid hs4; clear hf4 hd4 hs4))
                go_end0
                exact ⟨rfl, HFZ.out, _, HDZ.out, HFN.out _ _ _ HRR.out ⟨fun h => absurd h (by omega), fun _ => rfl⟩ ⟨fun _ => HS4.out, fun h => absurd ⟨by omega, by omega⟩ h⟩⟩
              · have a1 : decide ((s : Int) < (m : Int)) = true := decide_eq_true (by omega)
                have a2 : decide ((m : Int) < (e : Int)) = true := decide_eq_true (by omega)
                have a3 : decide ((a : Int) < (s : Int)) = false := decide_eq_false (by omega)
                have a4 : decide ((s : Int) < (M : Int)) = true := decide_eq_true (by omega)
                have a5 : decide ((M : Int) < (e : Int)) = true := decide_eq_true (by omega)
                have a6 : decide ((e : Int) < (b : Int)) = false := decide_eq_false (by omega)
                have HR1 := Lib.hid (HRT.out wr HDI.out (by omega) (by omega))
                have HRR := Lib.hid HR0.out
                have HK1 := Lib.hid (HKP.out _ HRR.out)
                have HN1 := Lib.hid (fun x hx => HMM.out x (HK1.out.mem (by omega) x hx))
                have HL1 := Lib.hid (HK1.out.len.trans HLN.out)
                clear HRT HRS HKP HFS HR0 HSC HIH
                go_wp2_with (first | (go_at_call 117; (with_reducible refine HR1.out.mono ?_); rintro e2 w2 ⟨rfl, hk2, hd2⟩; have HFX := Lib.hid (Og.fg HFI.out hk2); have HDX := Lib.hid hd2; clear hk2 hd2))
                go_end0
                exact ⟨rfl, HFX.out, _, HDX.out, HFN.out _ _ _ HRR.out ⟨fun h => absurd h (by omega), fun _ => rfl⟩ ⟨fun h => absurd h (by omega), fun _ => rfl⟩⟩
          · by_cases qC : a < s
            · by_cases qE : e < b
              · have a1 : decide ((s : Int) < (m : Int)) = true := decide_eq_true (by omega)
                have a2 : decide ((m : Int) < (e : Int)) = false := decide_eq_false (by omega)
                have a3 : decide ((a : Int) < (s : Int)) = true := decide_eq_true (by omega)
                have a4 : decide ((s : Int) < (M : Int)) = false := decide_eq_false (by omega)
                have a5 : decide ((M : Int) < (e : Int)) = true := decide_eq_true (by omega)
                have a6 : decide ((e : Int) < (b : Int)) = true := decide_eq_true (by omega)
                have HRR := Lib.hid (HRS.out (by omega))
                have HK1 := Lib.hid (HKP.out _ HRR.out)
                have HN1 := Lib.hid (fun x hx => HMM.out x (HK1.out.mem (by omega) x hx))
                have HL1 := Lib.hid (HK1.out.len.trans HLN.out)
                have HFX := Lib.hid HFI.out
                have HDX := Lib.hid HDI.out
                have HMS := Lib.hid (HSC.out _ D HRR.out ⟨rfl, rfl⟩ (by omega))
                have HI2 := Lib.hid (fun (wx : World) (hd : Dat wx g D) (hf : Fg g W0 wx) => HIH.out wx D M e b (by omega) hd hf HMS.out HN1.out HL1.out)
                clear HRT HRS HKP HFS HR0 HSC HIH
                go_wp2_with (first | (go_at_call 97; (with_reducible refine (HI2.out _ HDX.out HFX.out).mono ?_); rintro e4 w4 ⟨rfl, hf4, D3, hd4, hs4⟩; have HFZ := Lib.hid hf4; have HDZ := Lib.hid hd4; have HS4 := Lib.hid hs4; clear hf4 hd4 hs4))
                go_end0
                exact ⟨rfl, HFZ.out, _, HDZ.out, HFN.out _ _ _ HRR.out ⟨fun h => absurd h (by omega), fun _ => rfl⟩ ⟨fun _ => HS4.out, fun h => absurd ⟨by omega, by omega⟩ h⟩⟩
              · omega
            · by_cases qE : e < b
              · omega
              · omega
        · by_cases qB : m < e
          · by_cases qC : a < s
            · by_cases qE : e < b
              · have a1 : decide ((s : Int) < (m : Int)) = false := decide_eq_false (by omega)
                have a2 : decide ((m : Int) < (e : Int)) = true := decide_eq_true (by omega)
                have a3 : decide ((a : Int) < (s : Int)) = true := decide_eq_true (by omega)
                have a4 : decide ((s : Int) < (M : Int)) = true := decide_eq_true (by omega)
                have a5 : decide ((M : Int) < (e : Int)) = false := decide_eq_false (by omega)
                have a6 : decide ((e : Int) < (b : Int)) = true := decide_eq_true (by omega)
                have HRR := Lib.hid (HRS.out (by omega))
                have HK1 := Lib.hid (HKP.out _ HRR.out)
                have HN1 := Lib.hid (fun x hx => HMM.out x (HK1.out.mem (by omega) x hx))
                have HL1 := Lib.hid (HK1.out.len.trans HLN.out)
                have HM1 := Lib.hid (HFS.out _ HRR.out (by omega))
                have HI1 := Lib.hid (fun (wx : World) (hd : Dat wx g D) (hf : Fg g W0 wx) => HIH.out wx D a s M (by omega) hd hf HM1.out HN1.out HL1.out)
                have HFX := Lib.hid HFI.out
                have HDX := Lib.hid HDI.out
                clear HRT HRS HKP HFS HR0 HSC HIH
                go_wp2_with (first | (go_at_call 97; (with_reducible refine (HI1.out _ HDX.out HFX.out).mono ?_); rintro e3 w3 ⟨rfl, hf3, D2, hd3, hs3⟩; have HFY := Lib.hid hf3; have HDY := Lib.hid hd3; have HS3 := Lib.hid hs3; clear hf3 hd3 hs3))
                go_end0
                exact ⟨rfl, HFY.out, _, HDY.out, HFN.out _ _ _ HRR.out ⟨fun _ => HS3.out, fun h => absurd ⟨by omega, by omega⟩ h⟩ ⟨fun h => absurd h (by omega), fun _ => rfl⟩⟩
              · omega
            · by_cases qE : e < b
              · omega
              · omega
          · by_cases qC : a < s
            · by_cases qE : e < b
              · have a1 : decide ((s : Int) < (m : Int)) = false := decide_eq_false (by omega)
                have a2 : decide ((m : Int) < (e : Int)) = false := decide_eq_false (by omega)
                have a3 : decide ((a : Int) < (s : Int)) = true := decide_eq_true (by omega)
                have a4 : decide ((s : Int) < (M : Int)) = false := decide_eq_false (by omega)
                have a5 : decide ((M : Int) < (e : Int)) = false := decide_eq_false (by omega)
                have a6 : decide ((e : Int) < (b : Int)) = true := decide_eq_true (by omega)
                have HRR := Lib.hid (HRS.out (by omega))
                have HK1 := Lib.hid (HKP.out _ HRR.out)
                have HN1 := Lib.hid (fun x hx => HMM.out x (HK1.out.mem (by omega) x hx))
                have HL1 := Lib.hid (HK1.out.len.trans HLN.out)
                have HFX := Lib.hid HFI.out
                have HDX := Lib.hid HDI.out
                clear HRT HRS HKP HFS HR0 HSC HIH
                go_wp2_with (fail)
                go_end0
                exact ⟨rfl, HFX.out, _, HDX.out, HFN.out _ _ _ HRR.out ⟨fun h => absurd h (by omega), fun _ => rfl⟩ ⟨fun h => absurd h (by omega), fun _ => rfl⟩⟩
              · omega
            · by_cases qE : e < b
              · omega
              · omega
  · have HT2 := Lib.hid t2
    have HT3 := Lib.hid t3
    clear t2 t3
    have t4 : (m : Int) ≤ (M : Int) := by simpa using t1
    go_wp2_with fail
    go_loopw [20, 21] (fun vs vr wr => ∃ s r : Nat, Sp.CutAt lt D a m b s r ∧ vs = .int .i64 (s : Int) ∧ vr = .int .i64 (r : Int) ∧ Fg g W0 wr ∧ Dat wr g D) (fun vs vr _ => (intOf vr).toNat - (intOf vs).toNat)
    case atStart => exact ⟨_, _, HC1.out, by rw [HT2.out], by rw [HT3.out], HF.out, HD.out⟩
    case round =>
      obtain ⟨s, r, hc, rfl, rfl, hf, hd⟩ := hrel
      have HFI := Lib.hid hf
      have HDI := Lib.hid hd
      have HC2 := Lib.hid hc
      have c1 := hc.sr
      have c2 := hc.as
      have c3 := hc.ns
      have c4 := hc.rm
      have c5 := hc.rd
      rw [HMQ.out] at c3
      rw [HM.out] at c5
      clear hc hf hd HD HF HC1
      have hqm := HQ.out
      by_cases hlt : s < r
      · have i1 : (s : Int) < (r : Int) := by omega
        obtain ⟨c, hcc⟩ : ∃ c, (s + r) / 2 = c := ⟨_, rfl⟩
        have HCC0 := Lib.hid hcc
        have x5 : ((s : Int) + (r : Int)) / 2 = (c : Int) := by omega
        have x6 : IntKind.i64.wrap (((Q - 1 : Nat) : Int) - (c : Int)) = ((Q - 1 - c : Nat) : Int) := by rw [IntWalk.i64_in _ (by omega)]; omega
        have hn2 := HLN.out
        obtain ⟨y, hy⟩ : ∃ y, D[c]? = some y := ⟨_, List.getElem?_eq_getElem (by omega)⟩
        obtain ⟨u, hu⟩ : ∃ u, D[Q - 1 - c]? = some u := ⟨_, List.getElem?_eq_getElem (by omega)⟩
        have HY := Lib.hid hy
        have HU := Lib.hid hu
        have hxy := HMG.out c (Q - 1 - c) y u (by omega) (by omega) (by omega) (by omega) hy hu
        obtain ⟨z, hz, hcal⟩ := HC.out y u hxy.1 (HN.out u hxy.2)
        have HCC := Lib.hid (fun wx hx => hcal wx hx)
        obtain ⟨cx, fx⟩ := HDI.out.get hu
        obtain ⟨cy, fy⟩ := HDI.out.get hy
        obtain ⟨J, hJ⟩ : ∃ J, Q - 1 - c = J := ⟨_, rfl⟩
        have HJ := Lib.hid hJ
        have y0 : (0 : Int) ≤ (c : Int) := by omega
        have y1 : (c : Int) < (n : Int) := by omega
        have y2 : (0 : Int) ≤ (J : Int) := by omega
        have y3 : (J : Int) < (n : Int) := by omega
        have hh1 : s ≤ c ∧ c < r := by omega
        have HJQ := Lib.hid (show (a + b) / 2 + m - 1 - (s + r) / 2 = J from by rw [HMQ.out, hcc, hJ])
        rw [hJ] at x6 cx fx hu
        have HU2 := Lib.hid hu
        clear hcc hy hu hn2 hcal hJ hqm HU
        by_cases hl : lt u y
        · have hz1 : z < 0 := hz.2 hl
          have hz2 : decide (z < 0) = true := decide_eq_true hz1
          have HL := Lib.hid (HC2.out.down hlt (by rw [HCC0.out]; exact HY.out) (by rw [HJQ.out]; exact HU2.out) hl)
          rw [HCC0.out] at HL
          clear hl hz
          go_wp2_with fail
          go_quiet ((go_at_call 43; exact Calls.quiet_of (HCC.out _ (Fg.drewN HFI.out _))))
          have HD3 := Lib.hid (HDI.out.drewN nq)
          have HF3 := Lib.hid (Fg.drewN HFI.out nq)
          clear cx cy fx fy HDI HFI
          generalize wr.drewN nq = W2 at *
          go_wp2_with fail
          go_roundw
          case rel => exact ⟨s, c, HL.out, rfl, rfl, HF3.out, HD3.out⟩
          case measure => simp [intOf] <;> omega
        · have hz1 : 0 ≤ z := by rcases Int.lt_or_le z 0 with q | q; exact absurd (hz.1 q) hl; exact q
          have hz2 : decide (z < 0) = false := decide_eq_false (by omega)
          have HL := Lib.hid (HC2.out.up hlt (by rw [HCC0.out]; exact HY.out) (by rw [HJQ.out]; exact HU2.out) (HO.out.not hl (by omega)))
          rw [HCC0.out] at HL
          clear hl hz
          go_wp2_with fail
          go_quiet ((go_at_call 43; exact Calls.quiet_of (HCC.out _ (Fg.drewN HFI.out _))))
          have HD3 := Lib.hid (HDI.out.drewN nq)
          have HF3 := Lib.hid (Fg.drewN HFI.out nq)
          clear cx cy fx fy HDI HFI
          generalize wr.drewN nq = W2 at *
          go_wp2_with fail
          go_roundw
          case rel => exact ⟨c + 1, r, HL.out, by go_num, rfl, HF3.out, HD3.out⟩
          case measure => simp [intOf] <;> omega
      · have i1 : (r : Int) ≤ (s : Int) := by omega
        obtain rfl : s = r := by omega
        have HCT := Lib.hid (HC2.out.done HG.out)
        obtain ⟨e, he⟩ : ∃ e, Q - s = e := ⟨_, rfl⟩
        rw [HMQ.out, he] at HCT
        have x7 : IntKind.i64.wrap ((Q : Int) - (s : Int)) = (e : Int) := by rw [IntWalk.i64_in _ (by omega)]; omega
        have hse : s + e = M + m := by omega
        have hel : m ≤ e ∧ e ≤ b := by omega
        have hn2 := HLN.out
        have HRT := Lib.hid (fun (wx : World) (hd : Dat wx g D) (h1 : s < m) (h2 : m < e) => so_rot (cap := cap) (T := D.take s ++ Sp.seg D m e ++ Sp.seg D s m ++ D.drop e) hd (.func (.func 43) #[] #[cp]) s m e h1 h2 (by omega) (by omega) rfl)
        have HR0 := Lib.hid (show Sp.Rot D s m e (D.take s ++ Sp.seg D m e ++ Sp.seg D s m ++ D.drop e) from rfl)
        rw [hn2] at HRT
        have HRS := Lib.hid (fun (h : s = m ∨ m = e) => Sp.Rot.skip (D := D) (by omega) hel.1 (by omega) h)
        have HKP := Lib.hid (fun (D1 : List Nat) (hr : Sp.Rot D s m e D1) => (Sp.rot_parts (a := a) (b := b) c2 c4 hel.1 hel.2 (by omega) hr).1)
        have HFS := Lib.hid (fun (D1 : List Nat) (hr : Sp.Rot D s m e D1) h => Sp.cut_first HG.out HCT.out hr h)
        have HSC := Lib.hid (fun (D1 D2 : List Nat) (hr : Sp.Rot D s m e D1) h k => Sp.cut_second (D2 := D2) HG.out HCT.out hr h k)
        have HFN := Lib.hid (fun (D1 D2 D3 : List Nat) (hr : Sp.Rot D s m e D1) h k => Sp.cut_merge (D2 := D2) (D3 := D3) HO.out HG.out HCT.out hr h k)
        rw [HM.out] at HFS HSC HFN
        have HMM := Lib.hid HN.out
        clear hqm HQ x0 e0 x01 e01 x1 x2 x4 he HC HMG HO HC2 HCT hn2 hcs t1 t4 HT2 HT3
        generalize D.take s ++ Sp.seg D m e ++ Sp.seg D s m ++ D.drop e = T at *
        by_cases qA : s < m
        · by_cases qB : m < e
          · by_cases qC : a < s
            · by_cases qE : e < b
              · have a1 : decide ((s : Int) < (m : Int)) = true := decide_eq_true (by omega)
                have a2 : decide ((m : Int) < (e : Int)) = true := decide_eq_true (by omega)
                have a3 : decide ((a : Int) < (s : Int)) = true := decide_eq_true (by omega)
                have a4 : decide ((s : Int) < (M : Int)) = true := decide_eq_true (by omega)
                have a5 : decide ((M : Int) < (e : Int)) = true := decide_eq_true (by omega)
                have a6 : decide ((e : Int) < (b : Int)) = true := decide_eq_true (by omega)
                have HR1 := Lib.hid (HRT.out wr HDI.out (by omega) (by omega))
                have HRR := Lib.hid HR0.out
                have HK1 := Lib.hid (HKP.out _ HRR.out)
                have HN1 := Lib.hid (fun x hx => HMM.out x (HK1.out.mem (by omega) x hx))
                have HL1 := Lib.hid (HK1.out.len.trans HLN.out)
                have HM1 := Lib.hid (HFS.out _ HRR.out (by omega))
                have HI1 := Lib.hid (fun (wx : World) (hd : Dat wx g T) (hf : Fg g W0 wx) => HIH.out wx T a s M (by omega) hd hf HM1.out HN1.out HL1.out)
                clear HRT HRS HKP HFS HR0
                go_wp2_with (first | (go_at_call 117; (with_reducible refine HR1.out.mono ?_); rintro e2 w2 ⟨rfl, hk2, hd2⟩; have HFX := Lib.hid (Og.fg HFI.out hk2); have HDX := Lib.hid hd2; clear hk2 hd2) | (go_at_call 97; (with_reducible refine (HI1.out _ HDX.out HFX.out).mono ?_); rintro e3 w3 ⟨rfl, hf3, D2, hd3, hs3⟩; have HFY := Lib.hid hf3; have HDY := Lib.hid hd3; have HS3 := Lib.hid hs3; have HMS := Lib.hid (HSC.out _ D2 HRR.out ⟨hs3.len, hs3.suf⟩ (by omega)); have HI2 := Lib.hid (fun (wx : World) (hd : Dat wx g D2) (hf : Fg g W0 wx) => HIH.out wx D2 M e b (by omega) hd hf HMS.out (fun x hx => HN1.out x (hs3.kept.mem (by omega) x hx)) (hs3.len.trans HL1.out)); clear hf3 hd3 hs3) | (go_at_call 97; (with_reducible refine (HI2.out _ HDY.out HFY.out).mono ?_); rintro e4 w4 ⟨rfl, hf4, D3, hd4, hs4⟩; have HFZ := Lib.hid hf4; have HDZ := Lib.hid hd4; have HS4 := Lib.hid hs4; clear hf4 hd4 hs4))
                go_end0
                exact ⟨rfl, HFZ.out, _, HDZ.out, HFN.out _ _ _ HRR.out ⟨fun _ => HS3.out, fun h => absurd ⟨by omega, by omega⟩ h⟩ ⟨fun _ => HS4.out, fun h => absurd ⟨by omega, by omega⟩ h⟩⟩
              · omega
            · by_cases qE : e < b
              · have a1 : decide ((s : Int) < (m : Int)) = true := decide_eq_true (by omega)
                have a2 : decide ((m : Int) < (e : Int)) = true := decide_eq_true (by omega)
                have a3 : decide ((a : Int) < (s : Int)) = false := decide_eq_false (by omega)
                have a4 : decide ((s : Int) < (M : Int)) = true := decide_eq_true (by omega)
                have a5 : decide ((M : Int) < (e : Int)) = true := decide_eq_true (by omega)
                have a6 : decide ((e : Int) < (b : Int)) = true := decide_eq_true (by omega)
                have HR1 := Lib.hid (HRT.out wr HDI.out (by omega) (by omega))
                have HRR := Lib.hid HR0.out
                have HK1 := Lib.hid (HKP.out _ HRR.out)
                have HN1 := Lib.hid (fun x hx => HMM.out x (HK1.out.mem (by omega) x hx))
                have HL1 := Lib.hid (HK1.out.len.trans HLN.out)
                have HMS := Lib.hid (HSC.out _ T HRR.out ⟨rfl, rfl⟩ (by omega))
                have HI2 := Lib.hid (fun (wx : World) (hd : Dat wx g T) (hf : Fg g W0 wx) => HIH.out wx T M e b (by omega) hd hf HMS.out HN1.out HL1.out)
                clear HRT HRS HKP HFS HR0 HSC HIH
                go_wp2_with (first | (go_at_call 117; (with_reducible refine HR1.out.mono ?_); rintro e2 w2 ⟨rfl, hk2, hd2⟩; have HFX := Lib.hid (Og.fg HFI.out hk2); have HDX := Lib.hid hd2; clear hk2 hd2) | (go_at_call 97; (with_reducible refine (HI2.out _ HDX.out HFX.out).mono ?_); rintro e4 w4 ⟨rfl, hf4, D3, hd4, hs4⟩; have HFZ := Lib.hid hf4; have HDZ := Lib.hid hd4; have HS4 := Lib.hid hs4; clear hf4 hd4 hs4))
                go_end0
                exact ⟨rfl, HFZ.out, _, HDZ.out, HFN.out _ _ _ HRR.out ⟨fun h => absurd h (by omega), fun _ => rfl⟩ ⟨fun _ => HS4.out, fun h => absurd ⟨by omega, by omega⟩ h⟩⟩
              · have a1 : decide ((s : Int) < (m : Int)) = true := decide_eq_true (by omega)
                have a2 : decide ((m : Int) < (e : Int)) = true := decide_eq_true (by omega)
                have a3 : decide ((a : Int) < (s : Int)) = false := decide_eq_false (by omega)
                have a4 : decide ((s : Int) < (M : Int)) = true := decide_eq_true (by omega)
                have a5 : decide ((M : Int) < (e : Int)) = true := decide_eq_true (by omega)
                have a6 : decide ((e : Int) < (b : Int)) = false := decide_eq_false (by omega)
                have HR1 := Lib.hid (HRT.out wr HDI.out (by omega) (by omega))
                have HRR := Lib.hid HR0.out
                have HK1 := Lib.hid (HKP.out _ HRR.out)
                have HN1 := Lib.hid (fun x hx => HMM.out x (HK1.out.mem (by omega) x hx))
                have HL1 := Lib.hid (HK1.out.len.trans HLN.out)
                clear HRT HRS HKP HFS HR0 HSC HIH
                go_wp2_with (first | (go_at_call 117; (with_reducible refine HR1.out.mono ?_); rintro e2 w2 ⟨rfl, hk2, hd2⟩; have HFX := Lib.hid (Og.fg HFI.out hk2); have HDX := Lib.hid hd2; clear hk2 hd2))
                go_end0
                exact ⟨rfl, HFX.out, _, HDX.out, HFN.out _ _ _ HRR.out ⟨fun h => absurd h (by omega), fun _ => rfl⟩ ⟨fun h => absurd h (by omega), fun _ => rfl⟩⟩
          · by_cases qC : a < s
            · by_cases qE : e < b
              · omega
              · omega
            · by_cases qE : e < b
              · omega
              · omega
        · by_cases qB : m < e
          · by_cases qC : a < s
            · by_cases qE : e < b
              · have a1 : decide ((s : Int) < (m : Int)) = false := decide_eq_false (by omega)
                have a2 : decide ((m : Int) < (e : Int)) = true := decide_eq_true (by omega)
                have a3 : decide ((a : Int) < (s : Int)) = true := decide_eq_true (by omega)
                have a4 : decide ((s : Int) < (M : Int)) = true := decide_eq_true (by omega)
                have a5 : decide ((M : Int) < (e : Int)) = false := decide_eq_false (by omega)
                have a6 : decide ((e : Int) < (b : Int)) = true := decide_eq_true (by omega)
                have HRR := Lib.hid (HRS.out (by omega))
                have HK1 := Lib.hid (HKP.out _ HRR.out)
                have HN1 := Lib.hid (fun x hx => HMM.out x (HK1.out.mem (by omega) x hx))
                have HL1 := Lib.hid (HK1.out.len.trans HLN.out)
                have HM1 := Lib.hid (HFS.out _ HRR.out (by omega))
                have HI1 := Lib.hid (fun (wx : World) (hd : Dat wx g D) (hf : Fg g W0 wx) => HIH.out wx D a s M (by omega) hd hf HM1.out HN1.out HL1.out)
                have HFX := Lib.hid HFI.out
                have HDX := Lib.hid HDI.out
                clear HRT HRS HKP HFS HR0 HSC HIH
                go_wp2_with (first | (go_at_call 97; (with_reducible refine (HI1.out _ HDX.out HFX.out).mono ?_); rintro e3 w3 ⟨rfl, hf3, D2, hd3, hs3⟩; have HFY := Lib.hid hf3; have HDY := Lib.hid hd3; have HS3 := Lib.hid hs3; clear hf3 hd3 hs3))
                go_end0
                exact ⟨rfl, HFY.out, _, HDY.out, HFN.out _ _ _ HRR.out ⟨fun _ => HS3.out, fun h => absurd ⟨by omega, by omega⟩ h⟩ ⟨fun h => absurd h (by omega), fun _ => rfl⟩⟩
              · omega
            · by_cases qE : e < b
              · omega
              · omega
          · by_cases qC : a < s
            · by_cases qE : e < b
              · have a1 : decide ((s : Int) < (m : Int)) = false := decide_eq_false (by omega)
                have a2 : decide ((m : Int) < (e : Int)) = false := decide_eq_false (by omega)
                have a3 : decide ((a : Int) < (s : Int)) = true := decide_eq_true (by omega)
                have a4 : decide ((s : Int) < (M : Int)) = false := decide_eq_false (by omega)
                have a5 : decide ((M : Int) < (e : Int)) = false := decide_eq_false (by omega)
                have a6 : decide ((e : Int) < (b : Int)) = true := decide_eq_true (by omega)
                have HRR := Lib.hid (HRS.out (by omega))
                have HK1 := Lib.hid (HKP.out _ HRR.out)
                have HN1 := Lib.hid (fun x hx => HMM.out x (HK1.out.mem (by omega) x hx))
                have HL1 := Lib.hid (HK1.out.len.trans HLN.out)
                have HFX := Lib.hid HFI.out
                have HDX := Lib.hid HDI.out
                clear HRT HRS HKP HFS HR0 HSC HIH
                go_wp2_with (fail)
                go_end0
                exact ⟨rfl, HFX.out, _, HDX.out, HFN.out _ _ _ HRR.out ⟨fun h => absurd h (by omega), fun _ => rfl⟩ ⟨fun h => absurd h (by omega), fun _ => rfl⟩⟩
              · omega
            · by_cases qE : e < b
              · omega
              · omega
end Go.Proofs.YtannhfnpigiggaaGreatDoor

namespace Go.Proofs.YtannhfnpigiggaaGreatDoor
set_option linter.unusedSimpArgs false
set_option linter.unusedVariables false
open Go.RowKit

theorem so_sym {N g cap n : Nat} {cp : Value} {W0 : World} {lt : Nat → Nat → Prop} (C : CmpIs cp g W0 N lt) (hm : n ≤ 1000000) : ∀ s, SymOk cp g W0 N lt n cap s
  | 0, w, D, a, m, b, hs, hD, hf, hg, hN, hn => by have := hg.am; have := hg.mb; omega
  | s + 1, w, D, a, m, b, hs, hD, hf, hg, hN, hn => by
    subst hn
    by_cases h1 : a + 1 = m
    · subst h1; exact so_sym_left C hD hf a b hg hN hm
    · by_cases h2 : m + 1 = b
      · subst h2; exact so_sym_right C hD hf a m hg h1 hN hm
      · exact so_sym_cut C (so_sym C hm s) hD hf a m b hg h1 h2 hs hN rfl hm
set_option maxHeartbeats 16000000 in
set_option maxRecDepth 100000 in
theorem so_stable {N g cap n : Nat} {cp : Value} {W0 w : World} {lt : Nat → Nat → Prop} (C : CmpIs cp g W0 N lt) {D : List Nat} (hD : Dat w g D) (hf : Fg g W0 w) (hi : Sp.Inc D) (hN : ∀ x ∈ D, x < N) (hn : D.length = n) (hm : n ≤ 1000000) :
    Calls Tryz.prog 72 #[.slice (some ⟨g, 0, none⟩) n cap, .int .i64 (n : Int), .func (.func 43) #[] #[cp]] w fun e w' => e = .returned (.tuple #[]) ∧ Fg g W0 w' ∧ ∃ D', Dat w' g D' ∧ D'.Perm D ∧ Sp.Srt lt D' := by
  have HD := Lib.hid hD
  have HF := Lib.hid hf
  have HI := Lib.hid hi
  have HN := Lib.hid hN
  have HLN := Lib.hid hn
  have HSM := Lib.hid (fun (wx : World) (E : List Nat) (a m b : Nat) => so_sym (cap := cap) C hm n wx E a m b)
  have HIN := Lib.hid (fun (wx : World) (E : List Nat) (a b : Nat) (hE : E.length = n) (hd : Dat wx g E) (hf : Fg g W0 wx) h1 h2 h3 h4 => so_ins (cap := cap) C hd hf a b h1 h2 h3 h4 (by omega))
  clear C hD hf hi hN hn
  go_enter Tryz.func72, Tryz.ntmps72
  go_wp2_with fail
  go_loopw [7, 8] (fun va vb wr => ∃ k A B : Nat, ∃ E : List Nat, k * 20 = A ∧ A + 20 = B ∧ A ≤ n ∧ va = .int .i64 (A : Int) ∧ vb = .int .i64 (B : Int) ∧ Fg g W0 wr ∧ Dat wr g E ∧ E.Perm D ∧ Sp.Runs lt D D 20 k E) (fun va _ _ => n - (intOf va).toNat)
  case atStart => exact ⟨0, 0, 20, D, rfl, rfl, by omega, rfl, rfl, HF.out, HD.out, List.Perm.refl _, Sp.Runs.start D 20⟩
  case round =>
    obtain ⟨k, A, B, E, hA, hB, hk, rfl, rfl, hf, hd, hp, hr⟩ := hrel
    have HFI := Lib.hid hf
    have HDI := Lib.hid hd
    have HP := Lib.hid hp
    have HR := Lib.hid hr
    have HA := Lib.hid hA
    have HB := Lib.hid hB
    clear hf hd hp hr HD HF
    have HEL := Lib.hid (HP.out.length_eq.trans HLN.out)
    have HEN := Lib.hid (fun x (hx : x ∈ E) => HN.out x (HP.out.subset hx))
    have HSG := Lib.hid (fun b => show Sp.seg E A b = Sp.seg D A b from Sp.seg_of_drop (by have := HR.out.rest; rw [hA] at this; exact this))
    by_cases hlt : B ≤ n
    · have i1 : (B : Int) ≤ (n : Int) := by omega
      have HC := Lib.hid (HIN.out wr E A B HEL.out HDI.out HFI.out (by omega) (by have := HEL.out; omega) (by rw [HSG.out]; exact Sp.inc_seg HI.out _ _) HEN.out)
      rw [HEL.out] at HC
      obtain ⟨B2, hB2⟩ : ∃ B2, B + 20 = B2 := ⟨_, rfl⟩
      have HB2 := Lib.hid hB2
      have x1 : IntKind.i64.wrap ((B : Int) + 20) = (B2 : Int) := by rw [IntWalk.i64_in _ (by omega)]; omega
      clear hA hB hB2
      go_wp2_with ((go_at_call 96; (with_reducible refine HC.out.mono ?_); rintro e w2 ⟨rfl, hf2, E2, hd2, hs2⟩; have HF2 := Lib.hid hf2; have HD2 := Lib.hid hd2; have HS2 := Lib.hid hs2; clear hf2 hd2 hs2))
      have ha := HA.out
      have hb := HB.out
      have hb2 := HB2.out
      go_roundw
      case rel =>
        refine ⟨k + 1, B, B2, E2, by omega, hb2, by omega, rfl, rfl, HF2.out, HD2.out, (HS2.out.kept.whole (by omega)).trans HP.out, ?_⟩
        refine HR.out.step (by rw [ha, hb]; exact HS2.out) ?_
        rw [ha, HSG.out]
      case measure => simp [intOf] <;> omega
    · have i1 : (n : Int) < (B : Int) := by omega
      have HC := Lib.hid (HIN.out wr E A n HEL.out HDI.out HFI.out hk (by have := HEL.out; omega) (by rw [HSG.out]; exact Sp.inc_seg HI.out _ _) HEN.out)
      rw [HEL.out] at HC
      have HRA := Lib.hid (fun (E2 : List Nat) (hs : Sp.Sorted lt E A n E2) => show Sp.AllRuns lt D 20 E2 from by
        have ha := HA.out
        have h1 := Sp.Sorted.over HEL.out (show n ≤ A + 20 by omega) hs
        refine (HR.out.step (D' := E2) (by rw [ha]; exact h1) (by rw [ha, HSG.out])).all ?_
        have := HLN.out
        rw [Nat.add_mul]; omega)
      obtain ⟨wo, rfl⟩ : ∃ wo : World, wo = wr := ⟨_, rfl⟩
      clear HSG HA HR hA hB HB
      go_wp2_with ((go_at_call 96; (with_reducible refine HC.out.mono ?_); rintro e w2 ⟨rfl, hf2, E2, hd2, hs2⟩; have HF2 := Lib.hid hf2; have HD2 := Lib.hid hd2; have HS2 := Lib.hid (HRA.out E2 hs2); have HP2 := Lib.hid ((hs2.kept.whole hk).trans HP.out); clear hf2 hd2 hs2))
      clear HC HRA HIN HEN HEL HP HFI HDI
      go_loopw [6] (fun vs wr => ∃ s : Nat, ∃ E : List Nat, 20 ≤ s ∧ s < 2 * n + 21 ∧ vs = .int .i64 (s : Int) ∧ Fg g W0 wr ∧ Dat wr g E ∧ E.Perm D ∧ Sp.AllRuns lt D s E) (fun vs _ => n - (intOf vs).toNat)
      case atStart => exact ⟨20, E2, by omega, by omega, rfl, HF2.out, HD2.out, HP2.out, HS2.out⟩
      case round =>
        obtain ⟨s, Dp, hs20, hsn, rfl, hf, hd, hp, hr⟩ := hrel
        have HFI := Lib.hid hf
        have HDI := Lib.hid hd
        have HP := Lib.hid hp
        have HAR := Lib.hid hr
        clear hf hd hp hr HF2 HD2 HP2 HS2
        by_cases hlt2 : s < n
        · have j1 : (s : Int) < (n : Int) := by omega
          obtain ⟨S, hS⟩ : ∃ S, 2 * s = S := ⟨_, rfl⟩
          have HS := Lib.hid hS
          have x1 : IntKind.i64.wrap (2 * (s : Int)) = (S : Int) := by rw [IntWalk.i64_in _ (by omega)]; omega
          have x4 : IntKind.i64.wrap ((s : Int) * 2) = (S : Int) := by rw [IntWalk.i64_in _ (by omega)]; omega
          have hSn : S < 2 * n ∧ s < S := by omega
          clear hS
          obtain ⟨w1, rfl⟩ : ∃ w1 : World, w1 = wr := ⟨_, rfl⟩
          go_wp2_with fail
          go_loopw [7, 8] (fun va vb wr => ∃ k A B : Nat, ∃ E : List Nat, k * S = A ∧ A + S = B ∧ A ≤ n ∧ va = .int .i64 (A : Int) ∧ vb = .int .i64 (B : Int) ∧ Fg g W0 wr ∧ Dat wr g E ∧ E.Perm D ∧ Sp.Runs lt D Dp S k E) (fun va _ _ => n - (intOf va).toNat)
          case atStart => exact ⟨0, 0, S, Dp, Nat.zero_mul _, Nat.zero_add _, by omega, rfl, rfl, HFI.out, HDI.out, HP.out, Sp.Runs.from HAR.out _⟩
          case round =>
            obtain ⟨k, A, B, E, hA, hB, hk, rfl, rfl, hf, hd, hp, hr⟩ := hrel
            have HF3 := Lib.hid hf
            have HD3 := Lib.hid hd
            have HP3 := Lib.hid hp
            have HR := Lib.hid hr
            have HA := Lib.hid hA
            have HB := Lib.hid hB
            clear hf hd hp hr HDI HFI HP
            have hS := HS.out
            have HMG := Lib.hid (fun b => show A + s < b → b ≤ D.length → b ≤ B → b = B ∨ b = D.length → Sp.Mg lt E A (A + s) b ∧ (Sp.seg E A B).Perm (Sp.seg D A B) from fun h1 h2 h3 h4 => by
              subst hS hA hB
              exact Sp.runs_mg (b := b) HI.out HAR.out HR.out (by omega) h1 h2 h3 h4)
            have HEL := Lib.hid (HP3.out.length_eq.trans HLN.out)
            have HEN := Lib.hid (fun x (hx : x ∈ E) => HN.out x (HP3.out.subset hx))
            have HK1 := Lib.hid (show (k + 1) * S = B from by rw [Nat.add_mul, Nat.one_mul, hA, hB])
            obtain ⟨M, hM⟩ : ∃ M, A + s = M := ⟨_, rfl⟩
            have HM := Lib.hid hM
            rw [hM] at HMG
            have x2 : IntKind.i64.wrap ((A : Int) + (s : Int)) = (M : Int) := by rw [IntWalk.i64_in _ (by omega)]; omega
            by_cases hlt3 : B ≤ n
            · have k1 : (B : Int) ≤ (n : Int) := by omega
              obtain ⟨hm1, hm2⟩ := HMG.out B (by omega) (by have := HLN.out; omega) (by omega) (.inl rfl)
              have HC := Lib.hid (HSM.out wr E A M B (by omega) HD3.out HF3.out hm1 HEN.out HEL.out)
              have HM2 := Lib.hid hm2
              obtain ⟨B2, hB2⟩ : ∃ B2, B + S = B2 := ⟨_, rfl⟩
              have HB2 := Lib.hid hB2
              have x3 : IntKind.i64.wrap ((B : Int) + (S : Int)) = (B2 : Int) := by rw [IntWalk.i64_in _ (by omega)]; omega
              clear hm1 hm2 HMG hA hB hM hB2 hS
              go_wp2_with ((go_at_call 97; (with_reducible refine HC.out.mono ?_); rintro e w2 ⟨rfl, hf2, E2, hd2, hs2⟩; have HF2 := Lib.hid hf2; have HD2 := Lib.hid hd2; have HS2 := Lib.hid hs2; clear hf2 hd2 hs2))
              have ha := HA.out
              have hb := HB.out
              go_roundw
              case rel =>
                refine ⟨k + 1, B, B2, E2, HK1.out, HB2.out, by omega, rfl, rfl, HF2.out, HD2.out, (HS2.out.kept.whole (by omega)).trans HP3.out, ?_⟩
                exact HR.out.step (by rw [ha, hb]; exact HS2.out) (by rw [ha, hb]; exact HM2.out)
              case measure => simp [intOf] <;> omega
            · have k1 : (n : Int) < (B : Int) := by omega
              by_cases hlt4 : M < n
              · have k2 : (M : Int) < (n : Int) := by omega
                obtain ⟨hm1, hm2⟩ := HMG.out n hlt4 (by have := HLN.out; omega) (by omega) (.inr HLN.out.symm)
                have HC := Lib.hid (HSM.out wr E A M n (by omega) HD3.out HF3.out hm1 HEN.out HEL.out)
                have HM2 := Lib.hid hm2
                have HRA := Lib.hid (fun (E2 : List Nat) (hs : Sp.Sorted lt E A n E2) => show Sp.AllRuns lt D S E2 from by
                  have ha := HA.out
                  have hb := HB.out
                  have h1 := Sp.Sorted.over HEL.out (show n ≤ B by omega) hs
                  refine (HR.out.step (D' := E2) (by rw [ha, hb]; exact h1) (by rw [ha, hb]; exact HM2.out)).all ?_
                  have := HLN.out
                  rw [HK1.out]; omega)
                clear hm1 hm2 HMG hA hB hM hS
                go_wp2_with ((go_at_call 97; (with_reducible refine HC.out.mono ?_); rintro e w2 ⟨rfl, hf2, E2, hd2, hs2⟩; have HF2 := Lib.hid hf2; have HD2 := Lib.hid hd2; have HS2 := Lib.hid (HRA.out E2 hs2); have HP2 := Lib.hid ((hs2.kept.whole hk).trans HP3.out); clear hf2 hd2 hs2))
                go_roundw
                case rel => exact ⟨S, E2, by omega, by omega, rfl, HF2.out, HD2.out, HP2.out, HS2.out⟩
                case measure => simp [intOf] <;> omega
              · have k2 : (n : Int) ≤ (M : Int) := by omega
                have HRA := Lib.hid (show Sp.AllRuns lt D S E from by
                  have hl := HLN.out
                  subst hS
                  exact Sp.runs_lone HAR.out HR.out (by rw [hA]; omega))
                clear HMG hA hB hM hS
                go_wp2_with fail
                go_roundw
                case rel => exact ⟨S, E, by omega, by omega, rfl, HF3.out, HD3.out, HP3.out, HRA.out⟩
                case measure => simp [intOf] <;> omega
        · have j1 : (n : Int) ≤ (s : Int) := by omega
          have HQ := Lib.hid (HAR.out.done (by have := HLN.out; omega))
          go_wp2_with fail
          go_end0
          exact ⟨rfl, HFI.out, Dp, HDI.out, HQ.out.1, HQ.out.2⟩
end Go.Proofs.YtannhfnpigiggaaGreatDoor

namespace Go.Proofs.YtannhfnpigiggaaGreatDoor
set_option linter.unusedSimpArgs false
set_option linter.unusedVariables false
open Go.RowKit

/-- A result. -/
structure R4 where
  sc : Int
  kil : Bool
  wat : Bool
  ap : Int
def r4C (r : R4) : List Value := [.int .i64 r.sc, .bool r.kil, .bool r.wat, .int .i64 r.ap]
def r4V (l : List R4) : List Value := l.flatMap r4C
theorem r4V_length (l : List R4) : (r4V l).length = l.length * 4 := by
  induction l with
  | nil => rfl
  | cons t r ih => simp only [r4V, List.flatMap_cons, List.length_append] at ih ⊢; rw [ih]; simp [r4C]; omega
theorem r4V_get (l : List R4) (k : Nat) (hk : k < l.length) (j : Nat) (hj : j < 4) : (r4V l)[k * 4 + j]? = (r4C l[k])[j]? := by
  induction l generalizing k with
  | nil => simp at hk
  | cons t r ih =>
    cases k with
    | zero =>
      simp only [r4V, List.flatMap_cons]
      rw [List.getElem?_append_left (by simp [r4C]; omega)]; simp
    | succ k =>
      have h := ih k (by simpa using hk)
      simp only [r4V, List.flatMap_cons] at h ⊢
      rw [List.getElem?_append_right (by simp [r4C]; omega)]
      simp only [List.getElem_cons_succ]
      rw [← h]; congr 1; simp [r4C]; omega
theorem r4_at {w : World} {A : Option Addr} {l : List R4} (h : Row w A (r4V l)) {k : Nat} (hk : k < l.length) : ∃ bb off, A = some ⟨bb, off, none⟩ ∧ bb < w.heap.size ∧ w.cell? ⟨bb, off + k * 4, none⟩ = some (.int .i64 l[k].sc) ∧ w.cell? ⟨bb, off + k * 4 + 1, none⟩ = some (.bool l[k].kil) ∧ w.cell? ⟨bb, off + k * 4 + 2, none⟩ = some (.bool l[k].wat) ∧ w.cell? ⟨bb, off + k * 4 + 3, none⟩ = some (.int .i64 l[k].ap) := by
  rcases h with h0 | ⟨bb, o, e, hlt, hc⟩
  · have := r4V_length l
    rw [h0] at this; simp at this; omega
  · refine ⟨bb, o, e, hlt, ?_, ?_, ?_, ?_⟩
    · exact hc (k * 4 + 0) _ (by rw [r4V_get l k hk 0 (by omega)]; rfl)
    · rw [Nat.add_assoc]; exact hc (k * 4 + 1) _ (by rw [r4V_get l k hk 1 (by omega)]; rfl)
    · rw [Nat.add_assoc]; exact hc (k * 4 + 2) _ (by rw [r4V_get l k hk 2 (by omega)]; rfl)
    · rw [Nat.add_assoc]; exact hc (k * 4 + 3) _ (by rw [r4V_get l k hk 3 (by omega)]; rfl)
def r4Z : R4 := ⟨0, false, false, 0⟩
/-- i stands before j. -/
def bfR (l : List R4) (i j : Nat) : Prop := ((l.getD i r4Z).wat = true ∧ (l.getD j r4Z).wat = false) ∨ ((l.getD i r4Z).wat = (l.getD j r4Z).wat ∧ ((l.getD j r4Z).sc < (l.getD i r4Z).sc ∨ ((l.getD i r4Z).sc = (l.getD j r4Z).sc ∧ i < j)))
theorem bfR_ord (l : List R4) : Sp.Ord (bfR l) := by
  refine ⟨fun {a b c} h1 h2 => ?_, fun {a b} h => ?_, fun a h => ?_⟩
  · unfold bfR at *
    generalize l.getD a r4Z = x at *; generalize l.getD b r4Z = y at *; generalize l.getD c r4Z = z at *
    obtain ⟨s1, k1, w1, p1⟩ := x; obtain ⟨s2, k2, w2, p2⟩ := y; obtain ⟨s3, k3, w3, p3⟩ := z
    simp only at *
    cases w1 <;> cases w2 <;> cases w3 <;> simp at * <;> omega
  · unfold bfR at *
    generalize l.getD a r4Z = x at *; generalize l.getD b r4Z = y at *
    obtain ⟨s1, k1, w1, p1⟩ := x; obtain ⟨s2, k2, w2, p2⟩ := y
    simp only at *
    cases w1 <;> cases w2 <;> simp at * <;> omega
  · unfold bfR at h
    generalize l.getD a r4Z = x at *
    obtain ⟨s1, k1, w1, p1⟩ := x
    simp only at *
    cases w1 <;> simp at *
/-- What the comparison of a later one with an earlier one says. -/
def cmpZ (l : List R4) (j i : Nat) : Int := if (l.getD j r4Z).wat != (l.getD i r4Z).wat then (if (l.getD j r4Z).wat then -1 else 1) else (if (l.getD i r4Z).sc < (l.getD j r4Z).sc then -1 else if (l.getD j r4Z).sc < (l.getD i r4Z).sc then 1 else 0)
theorem cmpZ_bf (l : List R4) {i j : Nat} (h : i < j) : cmpZ l j i < 0 ↔ bfR l j i := by
  unfold cmpZ bfR
  generalize l.getD i r4Z = x at *; generalize l.getD j r4Z = y at *
  obtain ⟨s1, k1, w1, p1⟩ := x; obtain ⟨s2, k2, w2, p2⟩ := y
  simp only
  cases w1 <;> cases w2 <;> simp
  · split
    · simp; omega
    · split <;> simp <;> omega
  · split
    · simp; omega
    · split <;> simp <;> omega
set_option maxHeartbeats 1000000 in
theorem so_nan (x : Int) (w : World) : Calls Tryz.prog 73 #[.int .i64 x] w fun e w' => e = .returned (.bool false) ∧ w = w' := by
  go_enter Tryz.func73, Tryz.ntmps73
  go_wp2_with fail
  go_ret
  exact ⟨ret_bool (by simp), rfl⟩
set_option maxHeartbeats 1000000 in
theorem so_cmp (x y : Int) (w : World) : Calls Tryz.prog 44 #[.int .i64 x, .int .i64 y] w fun e w' => e = .returned (.int .i64 (if x < y then -1 else if y < x then 1 else 0)) ∧ w = w' := by
  have HN := Lib.hid (fun x wx => so_nan x wx)
  rcases Int.lt_trichotomy x y with h | h | h
  · have HR := Lib.hid (show (if x < y then -1 else if y < x then 1 else 0) = (-1 : Int) from if_pos h)
    rw [HR.out]
    go_enter Tryz.func44, Tryz.ntmps44
    go_wp2_with ((go_at_call 73; (with_reducible refine (HN.out _ _).mono ?_); rintro e w' ⟨rfl, rfl⟩))
    go_ret
    exact ⟨rfl, rfl⟩
  · subst h
    have HR := Lib.hid (show (if x < x then -1 else if x < x then 1 else 0) = (0 : Int) from by simp)
    rw [HR.out]
    go_enter Tryz.func44, Tryz.ntmps44
    go_wp2_with ((go_at_call 73; (with_reducible refine (HN.out _ _).mono ?_); rintro e w' ⟨rfl, rfl⟩))
    go_ret
    exact ⟨rfl, rfl⟩
  · have HR := Lib.hid (show (if x < y then -1 else if y < x then 1 else 0) = (1 : Int) from by rw [if_neg (by omega), if_pos h])
    have h2 : ¬ x < y := by omega
    rw [HR.out]
    go_enter Tryz.func44, Tryz.ntmps44
    go_wp2_with ((go_at_call 73; (with_reducible refine (HN.out _ _).mono ?_); rintro e w' ⟨rfl, rfl⟩))
    go_ret
    exact ⟨rfl, rfl⟩
set_option maxHeartbeats 4000000 in
set_option maxRecDepth 100000 in
theorem so_less {l : List R4} {A : Option Addr} {c bx : Nat} {w : World} (hb : w.cell? ⟨bx, 0, none⟩ = some (.slice A l.length c)) (hr : Row w A (r4V l)) {i j : Nat} (hi : i < l.length) (hj : j < l.length) (hm : l.length ≤ 1000000) :
    Calls Tryz.prog 43 #[.int .i64 (j : Int), .int .i64 (i : Int), .pointer (some ⟨bx, 0, none⟩)] w fun e w' => e = .returned (.int .i64 (cmpZ l j i)) ∧ ∃ m, w' = w.drewN m := by
  have HC := Lib.hid (fun x y wx => so_cmp x y wx)
  obtain ⟨bb, off, rfl, hbb, a0, _, a2, _⟩ := r4_at hr hi
  obtain ⟨bb', off', e, hbb', c0, _, c2, _⟩ := r4_at hr hj
  injection e with e; injection e with e1 e2
  subst e1 e2
  have gi : l.getD i r4Z = l[i] := by rw [List.getD_eq_getElem?_getD, List.getElem?_eq_getElem hi]; rfl
  have gj : l.getD j r4Z = l[j] := by rw [List.getD_eq_getElem?_getD, List.getElem?_eq_getElem hj]; rfl
  have HV := Lib.hid (show cmpZ l j i = if l[j].wat != l[i].wat then (if l[j].wat then -1 else 1) else (if l[i].sc < l[j].sc then -1 else if l[j].sc < l[i].sc then 1 else 0) from by unfold cmpZ; rw [gi, gj])
  generalize cmpZ l j i = Z at *
  generalize l[i] = x at *
  generalize l[j] = y at *
  obtain ⟨s1, k1, w1, p1⟩ := x
  obtain ⟨s2, k2, w2, p2⟩ := y
  simp only at a0 a2 c0 c2 HV
  have y0 : (0 : Int) ≤ (i : Int) := by omega
  have y1 : (i : Int) < (l.length : Int) := by omega
  have y2 : (0 : Int) ≤ (j : Int) := by omega
  have y3 : (j : Int) < (l.length : Int) := by omega
  clear gi gj hr
  cases w1 <;> cases w2
  · have HR := Lib.hid (show Z = if s1 < s2 then -1 else if s2 < s1 then 1 else 0 from HV.out)
    have HCZ := Lib.hid (fun wx => show Calls Tryz.prog 44 #[.int .i64 s1, .int .i64 s2] wx (fun e w' => e = .returned (.int .i64 Z) ∧ wx = w') from by rw [HR.out]; exact HC.out s1 s2 wx)
    go_enter Tryz.func43, Tryz.ntmps43
    go_wp2_with fail
    go_quiet (fail)
    obtain ⟨W2, hW2⟩ : ∃ W2, w.drewN nq = W2 := ⟨_, rfl⟩
    have a0 : W2.cell? ⟨bb, off + i * 4, none⟩ = some (.int .i64 s1) := by rw [← hW2]; exact a0
    have c0 : W2.cell? ⟨bb, off + j * 4, none⟩ = some (.int .i64 s2) := by rw [← hW2]; exact c0
    have hb : W2.cell? ⟨bx, 0, none⟩ = some (.slice (some ⟨bb, off, none⟩) l.length c) := by rw [← hW2]; exact hb
    rw [hW2]
    have HW2 := Lib.hid hW2
    clear hW2
    go_wp2_with fail
    go_quiet ((go_at_call 44; exact quiet_left' (HCZ.out _)))
    go_wp2_with fail
    go_ret
    exact ⟨rfl, by rw [← HW2.out]; exact ⟨_, World.drewN_drewN _ _ _⟩⟩
  · have HR := Lib.hid (show Z = -1 from HV.out)
    go_enter Tryz.func43, Tryz.ntmps43
    go_wp2_with fail
    go_quiet (fail)
    go_wp2_with fail
    go_ret
    exact ⟨ret_int HR.out.symm, _, rfl⟩
  · have HR := Lib.hid (show Z = 1 from HV.out)
    go_enter Tryz.func43, Tryz.ntmps43
    go_wp2_with fail
    go_quiet (fail)
    go_wp2_with fail
    go_ret
    exact ⟨ret_int HR.out.symm, _, rfl⟩
  · have HR := Lib.hid (show Z = if s1 < s2 then -1 else if s2 < s1 then 1 else 0 from HV.out)
    have HCZ := Lib.hid (fun wx => show Calls Tryz.prog 44 #[.int .i64 s1, .int .i64 s2] wx (fun e w' => e = .returned (.int .i64 Z) ∧ wx = w') from by rw [HR.out]; exact HC.out s1 s2 wx)
    go_enter Tryz.func43, Tryz.ntmps43
    go_wp2_with fail
    go_quiet (fail)
    obtain ⟨W2, hW2⟩ : ∃ W2, w.drewN nq = W2 := ⟨_, rfl⟩
    have a0 : W2.cell? ⟨bb, off + i * 4, none⟩ = some (.int .i64 s1) := by rw [← hW2]; exact a0
    have c0 : W2.cell? ⟨bb, off + j * 4, none⟩ = some (.int .i64 s2) := by rw [← hW2]; exact c0
    have hb : W2.cell? ⟨bx, 0, none⟩ = some (.slice (some ⟨bb, off, none⟩) l.length c) := by rw [← hW2]; exact hb
    rw [hW2]
    have HW2 := Lib.hid hW2
    clear hW2
    go_wp2_with fail
    go_quiet ((go_at_call 44; exact quiet_left' (HCZ.out _)))
    go_wp2_with fail
    go_ret
    exact ⟨rfl, by rw [← HW2.out]; exact ⟨_, World.drewN_drewN _ _ _⟩⟩
theorem cmp_is {l : List R4} {A : Option Addr} {c bx g : Nat} {w : World} (hbx : bx < g) (hA : ∀ bb o, A = some ⟨bb, o, none⟩ → l = [] ∨ bb < g) (hb : w.cell? ⟨bx, 0, none⟩ = some (.slice A l.length c)) (hr : Row w A (r4V l)) (hm : l.length ≤ 1000000) : CmpIs (.pointer (some ⟨bx, 0, none⟩)) g w l.length (bfR l) := by
  refine ⟨bfR_ord l, fun i j hij hj => ⟨cmpZ l j i, cmpZ_bf l hij, fun wx hx => ?_⟩⟩
  have hb2 : wx.cell? ⟨bx, 0, none⟩ = some (.slice A l.length c) := by
    rw [World.cell?_of_block (a := ⟨bx, 0, none⟩) ((Fr.bel hx).block bx hbx)]; exact hb
  have hr2 : Row wx A (r4V l) := by
    rcases hr with h0 | ⟨bb, o, e, hlt, hc⟩
    · exact .inl h0
    · exact .inr ⟨bb, o, e, Nat.lt_of_lt_of_le hlt (Fr.size hx), fun k v hv => by rw [World.cell?_of_block (a := ⟨bb, o + k, none⟩) ((Fr.bel hx).block bb ((hA bb o e).resolve_left (fun e0 => by subst e0; simp at hj)))]; exact hc k v hv⟩
  exact so_less hb2 hr2 (by omega) hj hm
end Go.Proofs.YtannhfnpigiggaaGreatDoor
