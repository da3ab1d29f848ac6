/- Walks over Prepend and its reference. -/
import Derived.Test.YtgfgjkafkdfjpaaDoorRoute1
namespace Go.Proofs.YtgfgjkafkdfjpaaDoor
set_option linter.unusedSimpArgs false
set_option linter.unusedVariables false
open Go.RowKit

theorem own_none' {w w' : World} (hb : Below w.heap.size w w') : StrsOwn w w' (.slice none 0 0) [] := ⟨World.ownsRow_nil _ _ _ _, hb⟩
theorem prep_own {w w3 : World} {s : ByteArray} {l : List Bs} {g cap : Nat} (hA : Below w.heap.size w (w.alloc (.cells #[.string s] 9)))
    (hown : w3.ownsRow w.heap.size 9 1 (.slice (some ⟨g, 0, none⟩) (1 + l.length) cap) (1 + l.length) ([Value.string s] ++ strsL l)) (hg : (w.alloc (.cells #[.string s] 9)).grownBy w3 (some w.heap.size)) (k : Nat) (hk : k ≤ 1 + l.length) (h5 : k = min (1 + l.length) 50) :
    StrsOwn w w3 (.slice (some ⟨g, 0, none⟩) k cap) ((toL s :: l).take 50) := by
  have e : ([Value.string s] ++ strsL l).take k = strsL ((toL s :: l).take 50) := by
    have : ([Value.string s] ++ strsL l) = strsL (toL s :: l) := by simp [ofL_toL]
    rw [this]
    simp only [strsL, ← List.map_take]
    congr 1
    rcases Nat.le_total (1 + l.length) 50 with h | h
    · rw [List.take_of_length_le (by simp; omega), List.take_of_length_le (by simp; omega)]
    · rw [show k = 50 from by omega]
  have hl : k = ((toL s :: l).take 50).length := by simp; omega
  refine ⟨?_, hA.grown hg (by simp) (fun k hk => by injection hk with hk; omega)⟩
  have := own_take hown k hk
  rw [e] at this
  rw [← hl]; exact this

set_option maxHeartbeats 4000000 in
set_option maxRecDepth 100000 in
theorem rt_prepend (A : Option Addr) (l : List Bs) (c : Nat) (s : ByteArray) (w : World) (hr : Row w A (strsL l)) (hl : Tame l) (hs : s.size ≤ 1000000) :
    Calls Tryd.prog 20 #[.slice A l.length c, .string s] w fun e w' => ∃ v, e = .returned (.tuple #[v, .int .i64 (prependR l (toL s)).2]) ∧ StrsOwn w w' v (prependR l (toL s)).1 := by
  have HR := Lib.hid hr
  have HT := Lib.hid hl
  have hl1 := hl.1
  clear hr hl
  by_cases he : (siteF (toL s)).2 = 0
  · have he' : ((siteF (toL s)).2 != 0) = false := by simp [he]
    by_cases hc : checkR l = 0
    · have HP := Lib.hid (show prependR l (toL s) = ((toL s :: l).take 50, 0) by simp [prependR, he, hc])
      have hc' : (checkR l != 0) = false := by simp [hc]
      have hA : Below w.heap.size w (w.alloc (.cells #[.string s] 9)) := (Below.refl _ _).alloc (Nat.le_refl _) _
      have HRA := Lib.hid (HR.out.below hA)
      have HOL := Lib.hid (World.ownsRow_lit (base := w.heap.size) (e := 9) (size := 1) w #[.string s] 1 (Nat.le_refl _) (by decide) rfl)
      clear he hc
      go_enter Tryd.func20, Tryd.ntmps20
      go_wp2_with fail
      (with_reducible refine (mid_site s _ (le_maxLen hs)).mono ?_)
      rintro e w' ⟨rfl, rfl⟩
      go_wp2_with fail
      (with_reducible refine (rt_check A l c _ HR.out HT.out).mono ?_)
      rintro e w' ⟨rfl, rfl⟩
      go_wp2_with ((at_builtin; refine wpList_pourS (l := l) (A := A) (c := c) el_Route rfl _ _ rfl HOL.out rfl rfl HRA.out ?q1 ?q2 ?_; (case q1 => omega); (case q2 => simp); intro v' w3 hown3 hg3 hat3; obtain ⟨g, cap, rfl, hcap, hgb⟩ := own_pos hown3 (by omega); have m1 : (0 : Int) ≤ min ((1 + l.length : Nat) : Int) 50 := (by omega); have m2 : min ((1 + l.length : Nat) : Int) 50 ≤ (cap : Int) := (by omega)))
      have hfin := prep_own hA hown3 hg3 (min ((1 + l.length : Nat) : Int) 50).toNat (by omega) (by omega)
      go_ret2
      exact ⟨_, by rw [HP.out]; rfl, by rw [HP.out]; exact hfin⟩
    · have HP := Lib.hid (show prependR l (toL s) = ([], checkR l) by simp [prependR, he, hc])
      have hc' : (checkR l != 0) = true := by simpa using hc
      clear he hc
      go_enter Tryd.func20, Tryd.ntmps20
      go_wp2_with fail
      (with_reducible refine (mid_site s _ (le_maxLen hs)).mono ?_)
      rintro e w' ⟨rfl, rfl⟩
      go_wp2_with fail
      (with_reducible refine (rt_check A l c _ HR.out HT.out).mono ?_)
      rintro e w' ⟨rfl, rfl⟩
      go_wp2_with fail
      go_ret2
      exact ⟨_, by rw [HP.out]; rfl, by rw [HP.out]; exact own_none' (Below.refl _ _)⟩
  · have he' : ((siteF (toL s)).2 != 0) = true := by simpa using he
    have HP := Lib.hid (show prependR l (toL s) = ([], (siteF (toL s)).2) by simp [prependR, he])
    clear he
    go_enter Tryd.func20, Tryd.ntmps20
    go_wp2_with fail
    (with_reducible refine (mid_site s _ (le_maxLen hs)).mono ?_)
    rintro e w' ⟨rfl, rfl⟩
    go_wp2_with fail
    go_ret2
    exact ⟨_, by rw [HP.out]; rfl, by rw [HP.out]; exact own_none' (Below.refl _ _)⟩

set_option maxHeartbeats 4000000 in
set_option maxRecDepth 100000 in
theorem refr_prepend (A : Option Addr) (l : List Bs) (c : Nat) (s : ByteArray) (w : World) (hr : Row w A (strsL l)) (hl : Tame l) (hs : s.size ≤ 1000000) :
    Calls Tryd.prog 21 #[.slice A l.length c, .string s] w fun e w' => ∃ v, e = .returned (.tuple #[v, .int .i64 (prependR l (toL s)).2]) ∧ StrsOwn w w' v (prependR l (toL s)).1 := by
  have HR := Lib.hid hr
  have HT := Lib.hid hl
  have hl1 := hl.1
  clear hr hl
  by_cases he : (siteF (toL s)).2 = 0
  · have he' : ((siteF (toL s)).2 != 0) = false := by simp [he]
    by_cases hc : checkR l = 0
    · have HP := Lib.hid (show prependR l (toL s) = ((toL s :: l).take 50, 0) by simp [prependR, he, hc])
      have hc' : (checkR l != 0) = false := by simp [hc]
      have hA : Below w.heap.size w (w.alloc (.cells #[.string s] 9)) := (Below.refl _ _).alloc (Nat.le_refl _) _
      have HRA := Lib.hid (HR.out.below hA)
      have HOL := Lib.hid (World.ownsRow_lit (base := w.heap.size) (e := 9) (size := 1) w #[.string s] 1 (Nat.le_refl _) (by decide) rfl)
      clear he hc
      go_enter Tryd.func21, Tryd.ntmps21
      go_wp2_with fail
      (with_reducible refine (ref_site s _ (le_maxLen hs)).mono ?_)
      rintro e w' ⟨rfl, rfl⟩
      go_wp2_with fail
      (with_reducible refine (refr_check A l c _ HR.out HT.out).mono ?_)
      rintro e w' ⟨rfl, rfl⟩
      by_cases h5 : 50 < 1 + l.length
      · have h5' : decide ((50 : Int) < ((1 + l.length : Nat) : Int)) = true := by simp; omega
        go_wp2_with ((at_builtin; refine wpList_pourS (l := l) (A := A) (c := c) el_string rfl _ _ rfl HOL.out rfl rfl HRA.out ?q1 ?q2 ?_; (case q1 => omega); (case q2 => simp); intro v' w3 hown3 hg3 hat3; obtain ⟨g, cap, rfl, hcap, hgb⟩ := own_pos hown3 (by omega); have m2 : (50 : Int) ≤ (cap : Int) := (by omega)))
        have hfin := prep_own hA hown3 hg3 50 (by omega) (by omega)
        go_ret2
        exact ⟨_, by rw [HP.out]; rfl, by rw [HP.out]; exact hfin⟩
      · have h5' : decide ((50 : Int) < ((1 + l.length : Nat) : Int)) = false := by simp; omega
        go_wp2_with ((at_builtin; refine wpList_pourS (l := l) (A := A) (c := c) el_string rfl _ _ rfl HOL.out rfl rfl HRA.out ?q3 ?q4 ?_; (case q3 => omega); (case q4 => simp); intro v' w3 hown3 hg3 hat3; obtain ⟨g, cap, rfl, hcap, hgb⟩ := own_pos hown3 (by omega)))
        have hfin := prep_own hA hown3 hg3 (1 + l.length) (by omega) (by omega)
        go_ret2
        exact ⟨_, by rw [HP.out]; rfl, by rw [HP.out]; exact hfin⟩
    · have HP := Lib.hid (show prependR l (toL s) = ([], checkR l) by simp [prependR, he, hc])
      have hc' : (checkR l != 0) = true := by simpa using hc
      clear he hc
      go_enter Tryd.func21, Tryd.ntmps21
      go_wp2_with fail
      (with_reducible refine (ref_site s _ (le_maxLen hs)).mono ?_)
      rintro e w' ⟨rfl, rfl⟩
      go_wp2_with fail
      (with_reducible refine (refr_check A l c _ HR.out HT.out).mono ?_)
      rintro e w' ⟨rfl, rfl⟩
      go_wp2_with fail
      go_ret2
      exact ⟨_, by rw [HP.out]; rfl, by rw [HP.out]; exact own_none' (Below.refl _ _)⟩
  · have he' : ((siteF (toL s)).2 != 0) = true := by simpa using he
    have HP := Lib.hid (show prependR l (toL s) = ([], (siteF (toL s)).2) by simp [prependR, he])
    clear he
    go_enter Tryd.func21, Tryd.ntmps21
    go_wp2_with fail
    (with_reducible refine (ref_site s _ (le_maxLen hs)).mono ?_)
    rintro e w' ⟨rfl, rfl⟩
    go_wp2_with fail
    go_ret2
    exact ⟨_, by rw [HP.out]; rfl, by rw [HP.out]; exact own_none' (Below.refl _ _)⟩

end Go.Proofs.YtgfgjkafkdfjpaaDoor
