/- Lemmas and walks, part 4. -/
import Derived.Test.YtcohgjdijhogbaaRows
import Derived.Test.YtcohgjdijhogbaaPt1
import Derived.Test.YtcohgjdijhogbaaPt3
import Derived.WalkKit
import Derived.WalkSpells
import Derived.WalkLawsBesides
import Derived.Lib.Hide
import Derived.Deep.QuietTactic
import Derived.BigQuiet
import Derived.Test.YtcohgjdijhogbaaPt2
namespace Go.Proofs.Ytcohgjdijhogbaa
set_option linter.unusedSimpArgs false
set_option linter.unusedVariables false
open Go.RowKit

set_option maxHeartbeats 400000 in
theorem asc_isLower (c : Int) (w : World) :
    Calls Try.prog 109 #[.int .u8 c] w fun e w' => e = .returned (.bool (isLower c)) ∧ w = w' := by
  go_enter Try.func109, Try.ntmps109
  go_wp2
  all_goals (go_ret; exact ⟨ret_bool (by simp [isLetter, isLower, isUpper, isDigit, isVisible, isBlank, *] <;> omega), rfl⟩)

set_option maxHeartbeats 400000 in
theorem asc_isUpper (c : Int) (w : World) :
    Calls Try.prog 110 #[.int .u8 c] w fun e w' => e = .returned (.bool (isUpper c)) ∧ w = w' := by
  go_enter Try.func110, Try.ntmps110
  go_wp2
  all_goals (go_ret; exact ⟨ret_bool (by simp [isLetter, isLower, isUpper, isDigit, isVisible, isBlank, *] <;> omega), rfl⟩)

set_option maxHeartbeats 400000 in
theorem asc_isLetter (c : Int) (w : World) :
    Calls Try.prog 102 #[.int .u8 c] w fun e w' => e = .returned (.bool (isLetter c)) ∧ w = w' := by
  go_enter Try.func102, Try.ntmps102
  go_wp2
  all_goals (go_ret; exact ⟨ret_bool (by simp [isLetter, isLower, isUpper, isDigit, isVisible, isBlank, *] <;> omega), rfl⟩)

set_option maxHeartbeats 400000 in
theorem asc_isDigit (c : Int) (w : World) :
    Calls Try.prog 105 #[.int .u8 c] w fun e w' => e = .returned (.bool (isDigit c)) ∧ w = w' := by
  go_enter Try.func105, Try.ntmps105
  go_wp2
  all_goals (go_ret; exact ⟨ret_bool (by simp [isLetter, isLower, isUpper, isDigit, isVisible, isBlank, *] <;> omega), rfl⟩)

set_option maxHeartbeats 400000 in
theorem asc_isVisible (c : Int) (w : World) :
    Calls Try.prog 88 #[.int .u8 c] w fun e w' => e = .returned (.bool (isVisible c)) ∧ w = w' := by
  go_enter Try.func88, Try.ntmps88
  go_wp2
  all_goals (go_ret; exact ⟨ret_bool (by simp [isLetter, isLower, isUpper, isDigit, isVisible, isBlank, *] <;> omega), rfl⟩)

set_option maxHeartbeats 400000 in
theorem asc_isBlank (c : Int) (w : World) :
    Calls Try.prog 89 #[.int .u8 c] w fun e w' => e = .returned (.bool (isBlank c)) ∧ w = w' := by
  go_enter Try.func89, Try.ntmps89
  go_wp2
  all_goals (go_ret; exact ⟨ret_bool (by simp [isLetter, isLower, isUpper, isDigit, isVisible, isBlank, *] <;> omega), rfl⟩)





end Go.Proofs.Ytcohgjdijhogbaa

namespace Go.Proofs.Ytcohgjdijhogbaa
set_option linter.unusedSimpArgs false
set_option linter.unusedVariables false
open Go.RowKit

/-- A function value without captures that answers p of a byte and changes nothing. -/
structure ClassIs (f : Nat) (p : Int → Bool) : Prop where
  enters : ∀ args w, (callFunc f args).run Try.prog w = .ok (.enter f args) w
  calls : ∀ (c : Int) (w : World), Calls Try.prog f #[.int .u8 c] w fun e w' => e = .returned (.bool (p c)) ∧ w = w'

set_option maxHeartbeats 400000 in
theorem asc_skip (f : Nat) (p : Int → Bool) (hf : ClassIs f p) (s : ByteArray) (i : Nat) (w : World) (hs : s.size ≤ maxLen) (hi : i ≤ s.size) :
    Calls Try.prog 98 #[.string s, .int .i64 i, .func (.func f) #[] #[]] w fun e w' => e = .returned (.int .i64 (skipFrom p (toL s) i)) ∧ w = w' := by
  unfold maxLen at hs
  have he := hf.enters
  go_enter Try.func98, Try.ntmps98
  go_wp2_with fail
  go_loop [1] (fun v => ∃ k : Nat, k ≤ s.size ∧ skipFrom p (toL s) i = skipFrom p (toL s) k ∧ v = .int .i64 k) (fun v => s.size - (intOf v).toNat)
  case atStart => exact ⟨i, hi, rfl, rfl⟩
  case round =>
    obtain ⟨k, hk, heq, rfl⟩ := hrel
    have HQ := Lib.hid heq; clear heq
    by_cases hlt : k < s.size
    · by_cases hp : p (num s[k]) = true
      · have H2 := Lib.hid (skipFrom_step p (toL s) k (by rw [toL_length]; exact hlt) (by rw [toL_getElem _ _ hlt]; exact hp))
        go_wp2_with (refine (hf.calls _ _).mono ?_; rintro e w' ⟨rfl, rfl⟩)
        go_round
        case rel => exact ⟨k + 1, by omega, HQ.out.trans H2.out, by go_num⟩
        case measure => simp [intOf] <;> omega
      · have hp' : p (num s[k]) = false := by simpa using hp
        have H2 := Lib.hid (skipFrom_stop p (toL s) k (by rw [toL_length]; exact hlt) (by rw [toL_getElem _ _ hlt]; exact hp'))
        clear hp
        go_wp2_with (refine (hf.calls _ _).mono ?_; rintro e w' ⟨rfl, rfl⟩)
        go_ret
        exact ⟨ret_int (by rw [HQ.out, H2.out]), rfl⟩
    · have H2 := Lib.hid (skipFrom_end p (toL s) k (by rw [toL_length]; omega))
      go_wp2_with fail
      go_ret
      exact ⟨ret_int (by rw [HQ.out, H2.out]), rfl⟩

end Go.Proofs.Ytcohgjdijhogbaa

namespace Go.Proofs.Ytcohgjdijhogbaa
set_option linter.unusedSimpArgs false
set_option linter.unusedVariables false
open Go.RowKit

set_option maxHeartbeats 400000 in
theorem sl_indexFunc_byte (f : Nat) (p : Int → Bool) (hf : ClassIs f p) (A : Option Addr) (l : List UInt8) (c : Nat) (w : World) (hl : l.length ≤ maxLen) (hr : Row w A (bytesV l)) :
    Calls Try.prog 90 #[.slice A l.length c, .func (.func f) #[] #[]] w fun e w' => e = .returned (.int .i64 (findI (fun c => p (num c)) l 0)) ∧ w = w' := by
  unfold maxLen at hl
  have he := hf.enters
  go_enter Try.func90, Try.ntmps90
  go_wp2_with fail
  go_loop [8, 5] (fun v _ => ∃ k : Nat, k ≤ l.length ∧ findI (fun c => p (num c)) l 0 = findI (fun c => p (num c)) (l.drop k) k ∧ v = .int .i64 k) (fun v _ => l.length - (intOf v).toNat)
  case atStart => exact ⟨0, by omega, rfl, rfl⟩
  case round =>
    obtain ⟨k, hk, heq, rfl⟩ := hrel
    by_cases hlt : k < l.length
    · obtain ⟨b, off, rfl, hbs, hcell⟩ := hr.at (k := k) (by simpa using hlt)
      have hc := hcell k (u8 l[k]) (by simp [hlt])
      clear hcell
      rw [List.drop_eq_getElem_cons hlt, findI] at heq
      have HQ := Lib.hid heq; clear heq
      by_cases hp : p (num l[k]) = true
      · go_wp2_with (refine (hf.calls _ _).mono ?_; rintro e w' ⟨rfl, rfl⟩)
        go_ret
        exact ⟨ret_int (by rw [HQ.out, if_pos hp]), rfl⟩
      · have hp' : p (num l[k]) = false := by simpa using hp
        clear hp
        go_wp2_with (refine (hf.calls _ _).mono ?_; rintro e w' ⟨rfl, rfl⟩)
        go_round
        case rel => exact ⟨k + 1, by omega, by rw [HQ.out, if_neg (by simp [hp'])], by go_num⟩
        case measure => simp [intOf] <;> omega
    · have hd : l.drop k = [] := List.drop_eq_nil_of_le (by omega)
      rw [hd, findI] at heq
      have HQ := Lib.hid heq; clear heq hd
      go_wp2_with fail
      go_ret
      exact ⟨ret_int (by rw [HQ.out]), rfl⟩

set_option maxHeartbeats 400000 in
theorem sl_containsFunc_byte (f : Nat) (p : Int → Bool) (hf : ClassIs f p) (A : Option Addr) (l : List UInt8) (c : Nat) (w : World) (hl : l.length ≤ maxLen) (hr : Row w A (bytesV l)) :
    Calls Try.prog 103 #[.slice A l.length c, .func (.func f) #[] #[]] w fun e w' => e = .returned (.bool (l.any fun c => p (num c))) ∧ w = w' := by
  go_enter Try.func103, Try.ntmps103
  go_wp2_with (refine (sl_indexFunc_byte f p hf A l c _ hl hr).mono ?_; rintro e w' ⟨rfl, rfl⟩)
  go_ret
  exact ⟨ret_bool (findI_geq _ _ _), rfl⟩

end Go.Proofs.Ytcohgjdijhogbaa

namespace Go.Proofs.Ytcohgjdijhogbaa
set_option linter.unusedSimpArgs false
set_option linter.unusedVariables false
open Go.RowKit

def notName (c : Int) : Bool := !isLetter c && !isDigit c && (c != 45)

set_option maxHeartbeats 400000 in
set_option maxRecDepth 100000 in
theorem fld_validName1 (c : Int) (w : World) :
    Calls Try.prog 104 #[.int .u8 c] w fun e w' => e = .returned (.bool (notName c)) ∧ w = w' := by
  by_cases h1 : isLetter c = true
  · go_enter Try.func104, Try.ntmps104
    go_wp2_with (first | (go_at_call 102; refine (asc_isLetter _ _).mono ?_; rintro e w' ⟨rfl, rfl⟩) | (go_at_call 105; refine (asc_isDigit _ _).mono ?_; rintro e w' ⟨rfl, rfl⟩))
    go_ret
    exact ⟨ret_bool (by simp [notName, h1]), rfl⟩
  · have h1' : isLetter c = false := by simpa using h1
    clear h1
    by_cases h2 : isDigit c = true
    · go_enter Try.func104, Try.ntmps104
      go_wp2_with (first | (go_at_call 102; refine (asc_isLetter _ _).mono ?_; rintro e w' ⟨rfl, rfl⟩) | (go_at_call 105; refine (asc_isDigit _ _).mono ?_; rintro e w' ⟨rfl, rfl⟩))
      go_ret
      exact ⟨ret_bool (by simp [notName, h1', h2]), rfl⟩
    · have h2' : isDigit c = false := by simpa using h2
      clear h2
      go_enter Try.func104, Try.ntmps104
      go_wp2_with (first | (go_at_call 102; refine (asc_isLetter _ _).mono ?_; rintro e w' ⟨rfl, rfl⟩) | (go_at_call 105; refine (asc_isDigit _ _).mono ?_; rintro e w' ⟨rfl, rfl⟩))
      go_ret
      exact ⟨ret_bool (by simp [notName, h1', h2']), rfl⟩

theorem class_validName1 : ClassIs 104 notName := ⟨Try.call104, fld_validName1⟩

def validName (l : List UInt8) : Bool :=
  match l with
  | [] => false
  | c :: r => decide (r.length < 40) && isLetter (num c) && !((c :: r).any fun c => notName (num c))

theorem toL_first {s : ByteArray} (h : 0 < s.size) : ∃ r, toL s = s[0] :: r ∧ r.length + 1 = s.size := by
  have h1 := drop_cons (toL s) 0 (by rw [toL_length]; exact h)
  rw [toL_getElem s 0 h] at h1
  refine ⟨_, by simpa using h1, ?_⟩
  simp [toL_length]; omega
theorem validName_all {s : ByteArray} (h : 0 < s.size) (h3 : s.size ≤ 40) (h4 : isLetter (num s[0]) = true) : validName (toL s) = !((toL s).any fun c => notName (num c)) := by
  obtain ⟨r, e, hr⟩ := toL_first h
  have : r.length < 40 := by omega
  rw [e, validName, h4]; simp [this]
theorem validName_first {s : ByteArray} (h : 0 < s.size) (h4 : isLetter (num s[0]) = false) : validName (toL s) = false := by
  obtain ⟨r, e, hr⟩ := toL_first h
  rw [e, validName, h4]; simp
theorem validName_long {s : ByteArray} (h : 40 < s.size) : validName (toL s) = false := by
  obtain ⟨r, e, hr⟩ := toL_first (s := s) (by omega)
  have : ¬ r.length < 40 := by omega
  rw [e, validName]; simp [this]
theorem validName_nil {s : ByteArray} (h : s.size = 0) : validName (toL s) = false := by rw [toL_nil h]; rfl

set_option maxHeartbeats 400000 in
set_option maxRecDepth 100000 in
theorem fld_validName (s : ByteArray) (w : World) (hs : s.size ≤ maxLen) :
    Calls Try.prog 91 #[.string s] w fun e w' => e = .returned (.bool (validName (toL s))) ∧ Below w.heap.size w w' := by
  unfold maxLen at hs
  by_cases h0 : s.size = 0
  · have h1 : s.toList = [] := toList_nil h0
    have H := Lib.hid (validName_nil h0)
    clear h0
    go_enter Try.func91, Try.ntmps91
    go_wp2_with fail
    go_ret
    exact ⟨ret_bool H.out.symm, Below.refl _ _⟩
  · have h1 : s.toList.isEmpty = false := toList_cons h0
    have h2 : 0 < s.size := by omega
    clear h0
    by_cases h3 : s.size ≤ 40
    · have h5 : decide (40 < (s.size : Int)) = false := by simp; omega
      by_cases h4 : isLetter (num s[0]) = true
      · have hconv := Lib.run_convert_string_bytes (P := Try.prog) w 9 70 5 s Try.underlying9 Try.underlying70 Try.underlying5
        have hrow := bytesWorld_row w 5 s
        have hbel := bytesWorld_below w 5 s
        have H := Lib.hid (validName_all h2 h3 h4)
        generalize Lib.bytesWorld w 5 s = w1 at hconv hrow hbel
        generalize grownCap w s.size 0 5 = cap at hconv
        have hcf := Lib.hid (sl_containsFunc_byte 104 notName class_validName1 (some ⟨w.heap.size, 0, none⟩) (toL s) cap w1 (by rw [toL_length]; exact hs) hrow)
        rw [toL_length] at hcf
        clear hrow
        go_enter Try.func91, Try.ntmps91
        go_wp2_with (first | (go_at_call 102; refine (asc_isLetter _ _).mono ?_; rintro e w' ⟨rfl, rfl⟩) | (go_at_call 103; refine hcf.out.mono ?_; rintro e w' ⟨rfl, rfl⟩))
        go_ret
        exact ⟨ret_bool H.out.symm, hbel⟩
      · have h4' : isLetter (num s[0]) = false := by simpa using h4
        have H := Lib.hid (validName_first h2 h4')
        clear h4
        go_enter Try.func91, Try.ntmps91
        go_wp2_with (go_at_call 102; refine (asc_isLetter _ _).mono ?_; rintro e w' ⟨rfl, rfl⟩)
        go_ret
        exact ⟨ret_bool H.out.symm, Below.refl _ _⟩
    · have h5 : decide (40 < (s.size : Int)) = true := by simp; omega
      have H := Lib.hid (validName_long (s := s) (by omega))
      go_enter Try.func91, Try.ntmps91
      go_wp2_with fail
      go_ret
      exact ⟨ret_bool H.out.symm, Below.refl _ _⟩

def NamePre (s : ByteArray) (k : Nat) : Prop := ∀ j (h : j < s.size), j < k → notName (num s[j]) = false ∧ (j = 0 → isLetter (num s[j]) = true)
theorem NamePre.zero (s : ByteArray) : NamePre s 0 := fun _ _ h => absurd h (by omega)
theorem NamePre.step {s : ByteArray} {k : Nat} (h : NamePre s k) (hk : k < s.size) (h1 : notName (num s[k]) = false) (h2 : k = 0 → isLetter (num s[k]) = true) : NamePre s (k + 1) := by
  intro j hj hjk
  by_cases e : j = k
  · subst e; exact ⟨h1, h2⟩
  · exact h j hj (by omega)
theorem validName_bad {s : ByteArray} {k : Nat} (hk : k < s.size) (hn : notName (num s[k]) = true) : validName (toL s) = false := by
  obtain ⟨r, e, hr⟩ := toL_first (s := s) (by omega)
  have hm : (toL s).any (fun c => notName (num c)) = true := by
    rw [List.any_eq_true]
    exact ⟨s[k], by rw [← toL_getElem s k hk]; exact List.getElem_mem _, hn⟩
  rw [e] at hm
  rw [e, validName, hm]; simp
theorem validName_good {s : ByteArray} {k : Nat} (h0 : 0 < s.size) (h3 : s.size ≤ 40) (hk : s.size ≤ k) (h : NamePre s k) : validName (toL s) = true := by
  rw [validName_all h0 h3 ((h 0 h0 (by omega)).2 rfl)]
  have : (toL s).any (fun c => notName (num c)) = false := by
    rw [List.any_eq_false]
    intro c hc
    obtain ⟨j, hj, rfl⟩ := List.getElem_of_mem hc
    have hj' : j < s.size := by rw [toL_length] at hj; exact hj
    rw [toL_getElem s j hj']
    simp [(h j hj' (by omega)).1]
  rw [this]; rfl
theorem letter_of (c : Int) : isLetter c = (isLower c || isUpper c) := rfl

end Go.Proofs.Ytcohgjdijhogbaa
