/- Lemmas and walks, part 29. -/
import Derived.Test.YtghjgbkhhoaebaaGreatDoorPo26
import Derived.Test.YtghjgbkhhoaebaaGreatDoorPo4
import Derived.Test.YtghjgbkhhoaebaaGreatDoorPo28
namespace Go.Proofs.YtghjgbkhhoaebaaGreatDoor
set_option linter.unusedSimpArgs false
set_option linter.unusedVariables false
open Go.RowKit

theorem toL_firstG {s : ByteArray} (h : 0 < s.size) : ∃ r, toL s = s[0] :: r ∧ r.length + 1 = s.size := by
  have hl : (toL s).length = s.size := toL_length s
  cases e : toL s with
  | nil => rw [e] at hl; simp at hl; omega
  | cons c r =>
    have := toL_getElem s 0 h
    simp only [e, List.getElem_cons_zero] at this
    exact ⟨r, by rw [this], by rw [e] at hl; simpa using hl⟩
theorem compG_cons (c : UInt8) (r : Bs) : compG (c :: r) = (decide ((c :: r).length ≤ 20) && isLower (num c) && !((c :: r).any fun c => notG (num c))) := rfl
theorem compG_nil {s : ByteArray} (h : s.size = 0) : compG (toL s) = false := by rw [List.eq_nil_of_length_eq_zero ((toL_length s).trans h)]; rfl
theorem compG_long {s : ByteArray} (h : 20 < s.size) : compG (toL s) = false := by
  obtain ⟨r, e, hr⟩ := toL_firstG (s := s) (by omega)
  rw [e, compG_cons, decide_eq_false (by simp; omega)]; rfl
theorem compG_first {s : ByteArray} (h : 0 < s.size) (h4 : isLower (num s[0]) = false) : compG (toL s) = false := by
  obtain ⟨r, e, hr⟩ := toL_firstG h
  rw [e, compG_cons]; simp [h4]
theorem compG_all {s : ByteArray} (h : 0 < s.size) (h3 : s.size ≤ 20) (h4 : isLower (num s[0]) = true) : compG (toL s) = !((toL s).any fun c => notG (num c)) := by
  obtain ⟨r, e, hr⟩ := toL_firstG h
  rw [e, compG_cons, decide_eq_true (by simp; omega), h4]; rfl
def PreG (s : ByteArray) (k : Nat) : Prop := ∀ j (h : j < s.size), j < k → notG (num s[j]) = false
theorem PreG.step {s : ByteArray} {k : Nat} (h : PreG s k) (hk : k < s.size) (h1 : notG (num s[k]) = false) : PreG s (k + 1) := by
  intro j hj hjk
  by_cases e : j = k
  · subst e; exact h1
  · exact h j hj (by omega)
theorem compG_bad {s : ByteArray} {k : Nat} (hk : k < s.size) (hn : notG (num s[k]) = true) : compG (toL s) = false := by
  obtain ⟨r, e, hr⟩ := toL_firstG (s := s) (by omega)
  have hm : (toL s).any (fun c => notG (num c)) = true := by
    rw [List.any_eq_true]
    exact ⟨s[k], by rw [← toL_getElem s k hk]; exact List.getElem_mem _, hn⟩
  rw [e] at hm ⊢
  rw [compG_cons, hm]; simp
theorem compG_good {s : ByteArray} {k : Nat} (h0 : 0 < s.size) (h3 : s.size ≤ 20) (h4 : isLower (num s[0]) = true) (hk : s.size ≤ k) (h : PreG s k) : compG (toL s) = true := by
  rw [compG_all h0 h3 h4]
  have : (toL s).any (fun c => notG (num c)) = false := by
    rw [List.any_eq_false]
    intro c hc
    obtain ⟨j, hj, rfl⟩ := List.getElem_of_mem hc
    have hj' : j < s.size := by rw [toL_length] at hj; exact hj
    rw [toL_getElem s j hj']
    simp [h j hj' (by omega)]
  rw [this]; rfl

set_option maxHeartbeats 400000 in
theorem gn_isLower (c : Int) (w : World) : Calls Tryz.prog 96 #[.int .u8 c] w fun e w' => e = .returned (.bool (isLower c)) ∧ w = w' := by
  go_enter Tryz.func96, Tryz.ntmps96
  go_wp2
  all_goals (go_ret; exact ⟨ret_bool (by simp [isLower, *] <;> omega), rfl⟩)
set_option maxHeartbeats 2000000 in
set_option maxRecDepth 100000 in
theorem gn_comp1 (c : Int) (w : World) : Calls Tryz.prog 98 #[.int .u8 c] w fun e w' => e = .returned (.bool (notG c)) ∧ w = w' := by
  rcases h1 : isLower c with _ | _
  all_goals by_cases g1 : 48 ≤ c
  all_goals by_cases g2 : c ≤ 57
  all_goals try (exfalso; omega)
  all_goals rcases h3 : (c != 45) with _ | _
  all_goals rcases h4 : (c != 43) with _ | _
  all_goals rcases h5 : (c != 95) with _ | _
  all_goals
    have H := Lib.hid (show notG c = _ from by unfold notG isDigit; rw [h1, h3, h4, h5])
    have H1 := Lib.hid h1
    have G1 := Lib.hid g1; have G2 := Lib.hid g2
    have g1' : 48 ≤ c ∨ c < 48 := by omega
    have g2' : c ≤ 57 ∨ 57 < c := by omega
    first | replace g1' := g1'.resolve_right (by omega) | replace g1' := g1'.resolve_left (by omega)
    first | replace g2' := g2'.resolve_right (by omega) | replace g2' := g2'.resolve_left (by omega)
    clear h1 g1 g2
    go_enter Tryz.func98, Tryz.ntmps98
    go_wp2_with ((go_at_call 96; refine (gn_isLower _ _).mono ?_; rintro e w' ⟨rfl, rfl⟩; rw [H1.out]))
    go_ret
    exact ⟨ret_bool (by rw [H.out]; simp [G1.out, G2.out]), rfl⟩
theorem class_comp1 : ClassIs 98 notG := ⟨Tryz.call98, gn_comp1⟩
set_option maxHeartbeats 1000000 in
set_option maxRecDepth 100000 in
theorem gn_isComp (s : ByteArray) (w : World) (hs : s.size ≤ maxLen) :
    Calls Tryz.prog 60 #[.string s] w fun e w' => e = .returned (.bool (compG (toL s))) ∧ Below w.heap.size w w' := by
  unfold maxLen at hs
  by_cases h0 : s.size = 0
  · have h1 : s.toList = [] := toList_nil h0
    have H := Lib.hid (compG_nil h0)
    clear h0
    go_enter Tryz.func60, Tryz.ntmps60
    go_wp2_with fail
    go_ret
    exact ⟨ret_bool H.out.symm, Below.refl _ _⟩
  · have h1 : s.toList.isEmpty = false := toList_cons h0
    have h2 : 0 < s.size := by omega
    clear h0
    by_cases h3 : s.size ≤ 20
    · have h5 : decide (20 < (s.size : Int)) = false := by simp; omega
      by_cases h4 : isLower (num s[0]) = true
      · have hconv := Lib.run_convert_string_bytes (P := Tryz.prog) w 9 89 5 s Tryz.underlying9 Tryz.underlying89 Tryz.underlying5
        have hrow := bytesWorld_row w 5 s
        have hbel := bytesWorld_below w 5 s
        have H := Lib.hid (compG_all h2 h3 h4)
        generalize Lib.bytesWorld w 5 s = w1 at hconv hrow hbel
        generalize grownCap w s.size 0 5 = cap at hconv
        have hcf := Lib.hid (sl_containsFunc_byte 98 notG class_comp1 (some ⟨w.heap.size, 0, none⟩) (toL s) cap w1 (by rw [toL_length]; exact hs) hrow)
        rw [toL_length] at hcf
        clear hrow
        go_enter Tryz.func60, Tryz.ntmps60
        go_wp2_with (first | (go_at_call 96; refine (gn_isLower _ _).mono ?_; rintro e w' ⟨rfl, rfl⟩) | (go_at_call 97; refine hcf.out.mono ?_; rintro e w' ⟨rfl, rfl⟩))
        go_ret
        exact ⟨ret_bool H.out.symm, hbel⟩
      · have h4' : isLower (num s[0]) = false := by simpa using h4
        have H := Lib.hid (compG_first h2 h4')
        clear h4
        go_enter Tryz.func60, Tryz.ntmps60
        go_wp2_with (go_at_call 96; refine (gn_isLower _ _).mono ?_; rintro e w' ⟨rfl, rfl⟩)
        go_ret
        exact ⟨ret_bool H.out.symm, Below.refl _ _⟩
    · have h5 : decide (20 < (s.size : Int)) = true := by simp; omega
      have H := Lib.hid (compG_long (s := s) (by omega))
      go_enter Tryz.func60, Tryz.ntmps60
      go_wp2_with fail
      go_ret
      exact ⟨ret_bool H.out.symm, Below.refl _ _⟩
theorem gn_part (s : ByteArray) (w : World) (hs : s.size ≤ maxLen) : Calls Tryz.prog 59 #[.string s] w fun e w' => e = .returned (.bool (!compG (toL s))) ∧ Below w.heap.size w w' := by
  have HC := Lib.hid (gn_isComp s w hs)
  generalize compG (toL s) = b at *
  go_enter Tryz.func59, Tryz.ntmps59
  go_wp2_with ((go_at_call 60; (with_reducible refine HC.out.mono ?_); rintro e w1 ⟨rfl, hb1⟩))
  go_ret
  exact ⟨rfl, hb1⟩
theorem part_pred : StrPred 59 #[] (fun x => !compG x) (fun _ => True) := ⟨Tryz.call59, fun s w _ hs => gn_part s w hs, fun _ _ _ _ => trivial⟩
theorem gn_split (s : ByteArray) (w : World) (hsh : w.ShapedOpen Tryz.prog) (hs : s.size ≤ 100000) :
    Calls Tryz.prog 94 #[.string s, .string ⟨#[46]⟩] w fun e w' => e = .returned (.slice (some ⟨w.heap.size, 0, none⟩) (splitM (toL s)).length (splitM (toL s)).length) ∧ w' = w.alloc (.cells (strsL (splitM (toL s))).toArray 9) := by
  refine (Tryz.strings_Split_shaped s markS w hsh (by omega) (by decide)).mono ?_
  rintro e w' ⟨rfl, rfl⟩
  exact ⟨by rw [← split_len], by rw [split_cells]⟩
theorem gn_parts (s : ByteArray) (w : World) (hsh : w.ShapedOpen Tryz.prog) (hs : s.size ≤ 100000) :
    Calls Tryz.prog 57 #[.string s] w fun e w' => e = .returned (.slice (some ⟨w.heap.size, 0, none⟩) (splitM (toL s)).length (splitM (toL s)).length) ∧ w' = w.alloc (.cells (strsL (splitM (toL s))).toArray 9) := by
  have HS := Lib.hid (gn_split s w hsh hs)
  generalize splitM (toL s) = P at *
  go_enter Tryz.func57, Tryz.ntmps57
  go_wp2_with ((go_at_call 94; (with_reducible refine HS.out.mono ?_); rintro e w' ⟨rfl, rfl⟩))
  go_ret
  exact ⟨rfl, rfl⟩
set_option maxHeartbeats 1000000 in
set_option maxRecDepth 100000 in
theorem gn_check (s : ByteArray) (w : World) (hsh : w.ShapedOpen Tryz.prog) (hs : s.size ≤ maxLen) : Calls Tryz.prog 29 #[.string s] w fun e w' => e = .returned (.int .i64 (grpE (toL s))) ∧ Below w.heap.size w w' := by
  have HL := Lib.hid (toL_length s)
  unfold maxLen at hs
  have HV := Lib.hid (show grpE (toL s) = if 80 < (toL s).length then 5 else if (splitM (toL s)).any (fun x => !compG x) then 12 else if 10 < (splitM (toL s)).length then 9 else 0 from rfl)
  rw [HL.out] at HV
  by_cases h : 80 < s.size
  · have h' : (80 : Int) < (s.size : Int) := by omega
    rw [if_pos h] at HV
    clear h
    go_enter Tryz.func29, Tryz.ntmps29
    go_wp2_with fail
    go_ret
    exact ⟨ret_int HV.out.symm, Below.refl _ _⟩
  · have h' : (s.size : Int) ≤ 80 := by omega
    rw [if_neg h] at HV
    have hb := splitAux_sum (toL s) []
    rw [HL.out] at hb
    have HSP := Lib.hid (gn_parts s w hsh (by omega))
    have hlen : (splitM (toL s)).length ≤ 81 := by show (splitAux (toL s) []).length ≤ 81; omega
    have hmem : ∀ x ∈ splitM (toL s), x.length ≤ maxLen := fun x hx => by have := hb.2 x hx; simp at this; unfold maxLen; omega
    have HR := Lib.hid (show Row (w.alloc (.cells (strsL (splitM (toL s))).toArray 9)) (some ⟨w.heap.size, 0, none⟩) (strsL (splitM (toL s))) from Row.mk _ _ _ _ (by simp) fun j v hv => by
      rw [Lib.cell_of_heap (heap_alloc_new w _), Nat.zero_add]; simpa using hv)
    have HB := Lib.hid (show Below w.heap.size w (w.alloc (.cells (strsL (splitM (toL s))).toArray 9)) from (Below.refl _ _).alloc (Nat.le_refl _) _)
    generalize w.alloc (.cells (strsL (splitM (toL s))).toArray 9) = W at *
    have HCF := Lib.hid (sl_containsFunc_str 59 #[] (fun x => !compG x) (fun _ => True) part_pred (some ⟨w.heap.size, 0, none⟩) (splitM (toL s)) (splitM (toL s)).length W (by omega) HR.out trivial hmem)
    clear h hb hmem
    generalize splitM (toL s) = P at *
    rcases hc : (P.any fun x => !compG x) with _ | _
    · rw [hc] at HCF HV
      have hl2 : (P.length : Int) ≤ 10 ∨ (10 : Int) < (P.length : Int) := by omega
      rcases hl2 with g | g
      all_goals
        have HW := Lib.hid (show grpE (toL s) = _ from by rw [HV.out, if_neg (by simp)])
        first | rw [if_neg (by omega)] at HW | rw [if_pos (by omega)] at HW
        go_enter Tryz.func29, Tryz.ntmps29
        go_wp2_with (first | (go_at_call 57; (with_reducible refine HSP.out.mono ?_); rintro e w' ⟨rfl, rfl⟩) | (go_at_call 58; (with_reducible refine HCF.out.mono ?_); rintro e w1 ⟨rfl, hb1⟩))
        go_ret
        exact ⟨ret_int HW.out.symm, HB.out.trans (hb1.mono HB.out.size)⟩
    · rw [hc] at HCF HV
      have HW := Lib.hid (show grpE (toL s) = 12 from by rw [HV.out, if_pos rfl])
      go_enter Tryz.func29, Tryz.ntmps29
      go_wp2_with (first | (go_at_call 57; (with_reducible refine HSP.out.mono ?_); rintro e w' ⟨rfl, rfl⟩) | (go_at_call 58; (with_reducible refine HCF.out.mono ?_); rintro e w1 ⟨rfl, hb1⟩))
      go_ret
      exact ⟨ret_int HW.out.symm, HB.out.trans (hb1.mono HB.out.size)⟩
end Go.Proofs.YtghjgbkhhoaebaaGreatDoor
