/- Lemmas and walks, part 4. -/
import Derived.Test.YtghjgbkhhoaebaaGreatDoorRows
import Derived.Test.YtghjgbkhhoaebaaGreatDoorPo1
import Derived.Test.YtghjgbkhhoaebaaGreatDoorPo3
import Derived.WalkKit
import Derived.WalkSpells
import Derived.WalkLawsBesides
import Derived.Lib.Hide
import Derived.Deep.QuietTactic
import Derived.BigQuiet
import Derived.Test.YtghjgbkhhoaebaaGreatDoorPo2
import Derived.Deep.LoopGhost
import Derived.Laws.IdiomStrings
namespace Go.Proofs.YtghjgbkhhoaebaaGreatDoor
set_option linter.unusedSimpArgs false
set_option linter.unusedVariables false
open Go.RowKit

set_option maxHeartbeats 400000 in
theorem asc_isLower (c : Int) (w : World) :
    Calls Tryz.prog 55 #[.int .u8 c] w fun e w' => e = .returned (.bool (isLower c)) ∧ w = w' := by
  go_enter Tryz.func55, Tryz.ntmps55
  go_wp2
  all_goals (go_ret; exact ⟨ret_bool (by simp [isLetter, isLower, isUpper, isDigit, isVisible, isBlank, *] <;> omega), rfl⟩)

set_option maxHeartbeats 400000 in
theorem asc_isUpper (c : Int) (w : World) :
    Calls Tryz.prog 99 #[.int .u8 c] w fun e w' => e = .returned (.bool (isUpper c)) ∧ w = w' := by
  go_enter Tryz.func99, Tryz.ntmps99
  go_wp2
  all_goals (go_ret; exact ⟨ret_bool (by simp [isLetter, isLower, isUpper, isDigit, isVisible, isBlank, *] <;> omega), rfl⟩)

set_option maxHeartbeats 400000 in
theorem asc_isLetter (c : Int) (w : World) :
    Calls Tryz.prog 61 #[.int .u8 c] w fun e w' => e = .returned (.bool (isLetter c)) ∧ w = w' := by
  go_enter Tryz.func61, Tryz.ntmps61
  go_wp2
  all_goals (go_ret; exact ⟨ret_bool (by simp [isLetter, isLower, isUpper, isDigit, isVisible, isBlank, *] <;> omega), rfl⟩)

set_option maxHeartbeats 400000 in
theorem asc_isDigit (c : Int) (w : World) :
    Calls Tryz.prog 56 #[.int .u8 c] w fun e w' => e = .returned (.bool (isDigit c)) ∧ w = w' := by
  go_enter Tryz.func56, Tryz.ntmps56
  go_wp2
  all_goals (go_ret; exact ⟨ret_bool (by simp [isLetter, isLower, isUpper, isDigit, isVisible, isBlank, *] <;> omega), rfl⟩)


set_option maxHeartbeats 400000 in
theorem asc_isBlank (c : Int) (w : World) :
    Calls Tryz.prog 129 #[.int .u8 c] w fun e w' => e = .returned (.bool (isBlank c)) ∧ w = w' := by
  go_enter Tryz.func129, Tryz.ntmps129
  go_wp2
  all_goals (go_ret; exact ⟨ret_bool (by simp [isLetter, isLower, isUpper, isDigit, isVisible, isBlank, *] <;> omega), rfl⟩)


set_option maxHeartbeats 400000 in
theorem ref_uppercase (c : Int) (w : World) :
    Calls Tryz.prog 51 #[.int .u8 c] w fun e w' => e = .returned (.bool (isUpper c)) ∧ w = w' := by
  go_enter Tryz.func51, Tryz.ntmps51
  go_wp2
  all_goals (go_ret; exact ⟨ret_bool (by simp [isLetter, isLower, isUpper, isDigit, isVisible, isBlank, *] <;> omega), rfl⟩)



set_option maxHeartbeats 400000 in
theorem ref_blank (c : Int) (w : World) :
    Calls Tryz.prog 113 #[.int .u8 c] w fun e w' => e = .returned (.bool (isBlank c)) ∧ w = w' := by
  go_enter Tryz.func113, Tryz.ntmps113
  go_wp2
  all_goals (go_ret; exact ⟨ret_bool (by simp [isLetter, isLower, isUpper, isDigit, isVisible, isBlank, *] <;> omega), rfl⟩)
end Go.Proofs.YtghjgbkhhoaebaaGreatDoor

namespace Go.Proofs.YtghjgbkhhoaebaaGreatDoor
set_option linter.unusedSimpArgs false
set_option linter.unusedVariables false
open Go.RowKit

/-- A function value without captures that answers p of a byte and changes nothing. -/
structure ClassIs (f : Nat) (p : Int → Bool) : Prop where
  enters : ∀ args w, (callFunc f args).run Tryz.prog w = .ok (.enter f args) w
  calls : ∀ (c : Int) (w : World), Calls Tryz.prog f #[.int .u8 c] w fun e w' => e = .returned (.bool (p c)) ∧ w = w'

set_option maxHeartbeats 400000 in
theorem asc_skip (f : Nat) (p : Int → Bool) (hf : ClassIs f p) (s : ByteArray) (i : Nat) (w : World) (hs : s.size ≤ maxLen) (hi : i ≤ s.size) :
    Calls Tryz.prog 101 #[.string s, .int .i64 i, .func (.func f) #[] #[]] w fun e w' => e = .returned (.int .i64 (skipFrom p (toL s) i)) ∧ w = w' := by
  unfold maxLen at hs
  have he := hf.enters
  go_enter Tryz.func101, Tryz.ntmps101
  go_wp2_with fail
  go_loop [1] (fun v => ∃ k : Nat, k ≤ s.size ∧ skipFrom p (toL s) i = skipFrom p (toL s) k ∧ v = .int .i64 k) (fun v => s.size - (intOf v).toNat)
  case atStart => exact ⟨i, hi, rfl, rfl⟩
  case round =>
    obtain ⟨k, hk, heq, rfl⟩ := hrel
    have HQ := Lib.hid heq; clear heq
    by_cases hlt : k < s.size
    · by_cases hp : p (num s[k]) = true
      · have H2 := Lib.hid (skipFrom_step p (toL s) k (by rw [toL_length]; exact hlt) (by rw [toL_getElem _ _ hlt]; exact hp))
        go_wp2_with (refine (hf.calls _ _).mono ?_; rintro e w' ⟨rfl, rfl⟩)
        go_round
        case rel => exact ⟨k + 1, by omega, HQ.out.trans H2.out, by go_num⟩
        case measure => simp [intOf] <;> omega
      · have hp' : p (num s[k]) = false := by simpa using hp
        have H2 := Lib.hid (skipFrom_stop p (toL s) k (by rw [toL_length]; exact hlt) (by rw [toL_getElem _ _ hlt]; exact hp'))
        clear hp
        go_wp2_with (refine (hf.calls _ _).mono ?_; rintro e w' ⟨rfl, rfl⟩)
        go_ret
        exact ⟨ret_int (by rw [HQ.out, H2.out]), rfl⟩
    · have H2 := Lib.hid (skipFrom_end p (toL s) k (by rw [toL_length]; omega))
      go_wp2_with fail
      go_ret
      exact ⟨ret_int (by rw [HQ.out, H2.out]), rfl⟩

end Go.Proofs.YtghjgbkhhoaebaaGreatDoor

namespace Go.Proofs.YtghjgbkhhoaebaaGreatDoor
set_option linter.unusedSimpArgs false
set_option linter.unusedVariables false
open Go.RowKit

set_option maxHeartbeats 400000 in
theorem sl_indexFunc_byte (f : Nat) (p : Int → Bool) (hf : ClassIs f p) (A : Option Addr) (l : List UInt8) (c : Nat) (w : World) (hl : l.length ≤ maxLen) (hr : Row w A (bytesV l)) :
    Calls Tryz.prog 122 #[.slice A l.length c, .func (.func f) #[] #[]] w fun e w' => e = .returned (.int .i64 (findI (fun c => p (num c)) l 0)) ∧ w = w' := by
  unfold maxLen at hl
  have he := hf.enters
  go_enter Tryz.func122, Tryz.ntmps122
  go_wp2_with fail
  go_loop [8, 5] (fun v _ => ∃ k : Nat, k ≤ l.length ∧ findI (fun c => p (num c)) l 0 = findI (fun c => p (num c)) (l.drop k) k ∧ v = .int .i64 k) (fun v _ => l.length - (intOf v).toNat)
  case atStart => exact ⟨0, by omega, rfl, rfl⟩
  case round =>
    obtain ⟨k, hk, heq, rfl⟩ := hrel
    by_cases hlt : k < l.length
    · obtain ⟨b, off, rfl, hbs, hcell⟩ := hr.at (k := k) (by simpa using hlt)
      have hc := hcell k (u8 l[k]) (by simp [hlt])
      clear hcell
      rw [List.drop_eq_getElem_cons hlt, findI] at heq
      have HQ := Lib.hid heq; clear heq
      by_cases hp : p (num l[k]) = true
      · go_wp2_with (refine (hf.calls _ _).mono ?_; rintro e w' ⟨rfl, rfl⟩)
        go_ret
        exact ⟨ret_int (by rw [HQ.out, if_pos hp]), rfl⟩
      · have hp' : p (num l[k]) = false := by simpa using hp
        clear hp
        go_wp2_with (refine (hf.calls _ _).mono ?_; rintro e w' ⟨rfl, rfl⟩)
        go_round
        case rel => exact ⟨k + 1, by omega, by rw [HQ.out, if_neg (by simp [hp'])], by go_num⟩
        case measure => simp [intOf] <;> omega
    · have hd : l.drop k = [] := List.drop_eq_nil_of_le (by omega)
      rw [hd, findI] at heq
      have HQ := Lib.hid heq; clear heq hd
      go_wp2_with fail
      go_ret
      exact ⟨ret_int (by rw [HQ.out]), rfl⟩

set_option maxHeartbeats 400000 in
theorem sl_containsFunc_byte (f : Nat) (p : Int → Bool) (hf : ClassIs f p) (A : Option Addr) (l : List UInt8) (c : Nat) (w : World) (hl : l.length ≤ maxLen) (hr : Row w A (bytesV l)) :
    Calls Tryz.prog 97 #[.slice A l.length c, .func (.func f) #[] #[]] w fun e w' => e = .returned (.bool (l.any fun c => p (num c))) ∧ w = w' := by
  go_enter Tryz.func97, Tryz.ntmps97
  go_wp2_with (refine (sl_indexFunc_byte f p hf A l c _ hl hr).mono ?_; rintro e w' ⟨rfl, rfl⟩)
  go_ret
  exact ⟨ret_bool (findI_geq _ _ _), rfl⟩

end Go.Proofs.YtghjgbkhhoaebaaGreatDoor

namespace Go.Proofs.YtghjgbkhhoaebaaGreatDoor
set_option linter.unusedSimpArgs false
set_option linter.unusedVariables false
open Go.RowKit

def lowerB (c : UInt8) : UInt8 := if isUpper (num c) then c + 32 else c
def lowerL (l : List UInt8) : List UInt8 := l.map lowerB
theorem lowerL_length (l : List UInt8) : (lowerL l).length = l.length := by simp [lowerL]

/-- A block whose first cells are the bytes l, free to be written. -/
def lowPart (l : List UInt8) (k : Nat) : List UInt8 := (l.take k).map lowerB ++ l.drop k
theorem lowPart_zero (l : List UInt8) : lowPart l 0 = l := by simp [lowPart]
theorem lowPart_length (l : List UInt8) (k : Nat) : (lowPart l k).length = l.length := by simp [lowPart]; omega
theorem lowPart_end (l : List UInt8) (k : Nat) (h : l.length ≤ k) : lowPart l k = lowerL l := by simp [lowPart, lowerL, List.take_of_length_le h, List.drop_eq_nil_of_le h]
theorem lowPart_at (l : List UInt8) (k : Nat) (h : k < l.length) : (lowPart l k)[k]'(by rw [lowPart_length]; exact h) = l[k] := by
  simp only [lowPart]
  rw [List.getElem_append_right (by simp; omega)]
  simp [show min k l.length = k from by omega]
theorem lowPart_set (l : List UInt8) (k : Nat) (h : k < l.length) : (lowPart l k).set k (lowerB l[k]) = lowPart l (k + 1) := by
  simp only [lowPart]
  have h1 : ((l.take k).map lowerB).length = k := by simp; omega
  rw [List.set_append_right _ _ (by omega), List.take_succ_eq_append_getElem h, List.drop_eq_getElem_cons h, h1, Nat.sub_self, List.set_cons_zero, List.map_append, List.append_assoc]
  rfl
theorem lowPart_same (l : List UInt8) (k : Nat) (h : k < l.length) (hu : isUpper (num l[k]) = false) : lowPart l k = lowPart l (k + 1) := by
  rw [← lowPart_set l k h]
  have h1 := List.set_getElem_self (h := show k < (lowPart l k).length by rw [lowPart_length]; exact h)
  rw [lowPart_at l k h] at h1
  rw [lowerB, if_neg (by simp [hu])]; exact h1.symm
theorem lowerB_num {c : UInt8} (h : isUpper (num c) = true) : num (lowerB c) = num c + 32 := by
  rw [lowerB, if_pos h]
  simp [isUpper] at h
  have h1 : c.toNat ≤ 90 := by simp [num] at h; omega
  have : (c + 32).toNat = c.toNat + 32 := by rw [UInt8.toNat_add]; simp; omega
  simp [num, this]

def LowAt (s : ByteArray) (w wr : World) (k : Nat) : Prop := BytesAt wr w.heap.size (lowPart (toL s) k) ∧ Below w.heap.size w wr

set_option maxHeartbeats 1000000 in
set_option maxRecDepth 100000 in
theorem asc_lower (s : ByteArray) (w : World) (hs : s.size ≤ maxLen) :
    Calls Tryz.prog 72 #[.string s] w fun e w' => e = .returned (.string (ofL (lowerL (toL s)))) ∧ Below w.heap.size w w' := by
  unfold maxLen at hs
  have hconv := Lib.run_convert_string_bytes (P := Tryz.prog) w 9 89 5 s Tryz.underlying9 Tryz.underlying89 Tryz.underlying5
  have hst : LowAt s w (Lib.bytesWorld w 5 s) 0 := ⟨by rw [lowPart_zero]; exact bytesAt_new _ _ _, bytesWorld_below w 5 s⟩
  generalize Lib.bytesWorld w 5 s = w1 at hconv hst
  generalize grownCap w s.size 0 5 = cap at hconv
  go_enter Tryz.func72, Tryz.ntmps72
  go_wp2_with fail
  clear hconv
  go_loopw [10, 4] (fun v _ wr => ∃ k : Nat, k ≤ s.size ∧ v = .int .i64 k ∧ LowAt s w wr k) (fun v _ _ => s.size - (intOf v).toNat)
  case atStart => exact ⟨0, by omega, rfl, hst⟩
  case round =>
    obtain ⟨k, hk, rfl, hB, hbel⟩ := hrel
    by_cases hlt : k < s.size
    · have hlt' : k < (toL s).length := by rw [toL_length]; exact hlt
      have hc := hB.cells k (by rw [lowPart_length]; exact hlt')
      have hf := hB.free k (by rw [lowPart_length]; exact hlt')
      rw [lowPart_at _ _ hlt'] at hc
      rcases hu : isUpper (num (toL s)[k]) with _ | _
      · have HN := Lib.hid (lowPart_same _ _ hlt' hu)
        generalize (toL s)[k] = c at *
        go_wp2_with (go_at_call 99; refine (asc_isUpper _ _).mono ?_; rintro e w' ⟨rfl, rfl⟩)
        go_roundw
        case rel => exact ⟨k + 1, by omega, by go_num, ⟨by rw [← HN.out]; exact hB, hbel⟩⟩
        case measure => simp [intOf] <;> omega
      · have HN := Lib.hid (lowPart_set _ _ hlt')
        generalize (toL s)[k] = c at *
        have HB := Lib.hid (hB.set k (lowerB c))
        rw [HN.out] at HB
        have HL := Lib.hid (lowerB_num hu)
        have hcu : num c ≤ 90 := by simp [isUpper] at hu; omega
        have hcl : 65 ≤ num c := by simp [isUpper] at hu; omega
        go_wp2_with (go_at_call 99; refine (asc_isUpper _ _).mono ?_; rintro e w' ⟨rfl, rfl⟩)
        go_roundw
        case rel =>
          refine ⟨k + 1, by omega, by go_num, ⟨?_, hbel.setCell (p := ⟨w.heap.size, k, none⟩) (Nat.le_refl _) _⟩⟩
          have := HB.out
          simp only [Go.Proofs.YtghjgbkhhoaebaaGreatDoor.u8, HL.out] at this
          exact this
        case measure => simp [intOf] <;> omega
    · have hk' : k = s.size := by omega
      subst hk'
      have hcv := run_convert_bytes_back (P := Tryz.prog) wr 89 9 5 ⟨w.heap.size, 0, none⟩ cap (lowPart (toL s) s.size) Tryz.underlying89 Tryz.underlying5 Tryz.underlying9 (fun j hj => by have := hB.cells j hj; rw [Addr.add]; split <;> simp_all)
      rw [lowPart_length, toL_length, lowPart_end _ _ (by rw [toL_length]; omega)] at hcv
      go_wp2_with fail
      go_ret
      exact ⟨rfl, hbel⟩

set_option maxHeartbeats 1000000 in
set_option maxRecDepth 100000 in
theorem ref_lower (s : ByteArray) (w : World) (hs : s.size ≤ maxLen) :
    Calls Tryz.prog 25 #[.string s] w fun e w' => e = .returned (.string (ofL (lowerL (toL s)))) ∧ Below w.heap.size w w' := by
  unfold maxLen at hs
  have hconv := Lib.run_convert_string_bytes (P := Tryz.prog) w 9 89 5 s Tryz.underlying9 Tryz.underlying89 Tryz.underlying5
  have hst : LowAt s w (Lib.bytesWorld w 5 s) 0 := ⟨by rw [lowPart_zero]; exact bytesAt_new _ _ _, bytesWorld_below w 5 s⟩
  generalize Lib.bytesWorld w 5 s = w1 at hconv hst
  generalize grownCap w s.size 0 5 = cap at hconv
  go_enter Tryz.func25, Tryz.ntmps25
  go_wp2_with fail
  clear hconv
  go_loopw [4, 11] (fun v _ wr => ∃ k : Nat, k ≤ s.size ∧ v = .int .i64 k ∧ LowAt s w wr k) (fun v _ _ => s.size - (intOf v).toNat)
  case atStart => exact ⟨0, by omega, rfl, hst⟩
  case round =>
    obtain ⟨k, hk, rfl, hB, hbel⟩ := hrel
    by_cases hlt : k < s.size
    · have hlt' : k < (toL s).length := by rw [toL_length]; exact hlt
      have hc := hB.cells k (by rw [lowPart_length]; exact hlt')
      have hf := hB.free k (by rw [lowPart_length]; exact hlt')
      rw [lowPart_at _ _ hlt'] at hc
      rcases hu : isUpper (num (toL s)[k]) with _ | _
      · have HN := Lib.hid (lowPart_same _ _ hlt' hu)
        generalize (toL s)[k] = c at *
        go_wp2_with (go_at_call 51; refine (ref_uppercase _ _).mono ?_; rintro e w' ⟨rfl, rfl⟩)
        go_roundw
        case rel => exact ⟨k + 1, by omega, by go_num, ⟨by rw [← HN.out]; exact hB, hbel⟩⟩
        case measure => simp [intOf] <;> omega
      · have HN := Lib.hid (lowPart_set _ _ hlt')
        generalize (toL s)[k] = c at *
        have HB := Lib.hid (hB.set k (lowerB c))
        rw [HN.out] at HB
        have HL := Lib.hid (lowerB_num hu)
        have hcu : num c ≤ 90 := by simp [isUpper] at hu; omega
        have hcl : 65 ≤ num c := by simp [isUpper] at hu; omega
        go_wp2_with (go_at_call 51; refine (ref_uppercase _ _).mono ?_; rintro e w' ⟨rfl, rfl⟩)
        go_roundw
        case rel =>
          refine ⟨k + 1, by omega, by go_num, ⟨?_, hbel.setCell (p := ⟨w.heap.size, k, none⟩) (Nat.le_refl _) _⟩⟩
          have := HB.out
          simp only [Go.Proofs.YtghjgbkhhoaebaaGreatDoor.u8, HL.out] at this
          exact this
        case measure => simp [intOf] <;> omega
    · have hk' : k = s.size := by omega
      subst hk'
      have hcv := run_convert_bytes_back (P := Tryz.prog) wr 89 9 5 ⟨w.heap.size, 0, none⟩ cap (lowPart (toL s) s.size) Tryz.underlying89 Tryz.underlying5 Tryz.underlying9 (fun j hj => by have := hB.cells j hj; rw [Addr.add]; split <;> simp_all)
      rw [lowPart_length, toL_length, lowPart_end _ _ (by rw [toL_length]; omega)] at hcv
      go_wp2_with fail
      go_ret
      exact ⟨rfl, hbel⟩

/-- Equal if case is ignored. -/
def foldEq (a b : List UInt8) : Bool := decide (lowerL a = lowerL b)

set_option maxHeartbeats 1000000 in
set_option maxRecDepth 100000 in
theorem asc_equalFold (a b : ByteArray) (w : World) (ha : a.size ≤ maxLen) (hb : b.size ≤ maxLen) :
    Calls Tryz.prog 44 #[.string a, .string b] w fun e w' => e = .returned (.bool (foldEq (toL a) (toL b))) ∧ Below w.heap.size w w' := by
  go_enter Tryz.func44, Tryz.ntmps44
  go_wp2_with fail
  (with_reducible refine (asc_lower a _ ha).mono ?_)
  rintro e w1 ⟨rfl, hb1⟩
  go_wp2_with fail
  (with_reducible refine (asc_lower b _ hb).mono ?_)
  rintro e w2 ⟨rfl, hb2⟩
  go_wp2_with fail
  go_ret
  refine ⟨ret_bool ?_, hb1.trans (hb2.mono hb1.size)⟩
  rw [beq_toList, toL_ofL, toL_ofL]; rfl

end Go.Proofs.YtghjgbkhhoaebaaGreatDoor

namespace Go.Proofs.YtghjgbkhhoaebaaGreatDoor
set_option linter.unusedSimpArgs false
set_option linter.unusedVariables false
open Go.RowKit

def notName (c : Int) : Bool := !isLetter c && !isDigit c && (c != 45)

def validName (l : List UInt8) : Bool :=
  match l with
  | [] => false
  | c :: r => decide (r.length < 40) && isLetter (num c) && !((c :: r).any fun c => notName (num c))

theorem toL_first {s : ByteArray} (h : 0 < s.size) : ∃ r, toL s = s[0] :: r ∧ r.length + 1 = s.size := by
  have h1 := drop_cons (toL s) 0 (by rw [toL_length]; exact h)
  rw [toL_getElem s 0 h] at h1
  refine ⟨_, by simpa using h1, ?_⟩
  simp [toL_length]; omega
theorem validName_all {s : ByteArray} (h : 0 < s.size) (h3 : s.size ≤ 40) (h4 : isLetter (num s[0]) = true) : validName (toL s) = !((toL s).any fun c => notName (num c)) := by
  obtain ⟨r, e, hr⟩ := toL_first h
  have : r.length < 40 := by omega
  rw [e, validName, h4]; simp [this]
theorem validName_first {s : ByteArray} (h : 0 < s.size) (h4 : isLetter (num s[0]) = false) : validName (toL s) = false := by
  obtain ⟨r, e, hr⟩ := toL_first h
  rw [e, validName, h4]; simp
theorem validName_long {s : ByteArray} (h : 40 < s.size) : validName (toL s) = false := by
  obtain ⟨r, e, hr⟩ := toL_first (s := s) (by omega)
  have : ¬ r.length < 40 := by omega
  rw [e, validName]; simp [this]
theorem validName_nil {s : ByteArray} (h : s.size = 0) : validName (toL s) = false := by rw [toL_nil h]; rfl

def NamePre (s : ByteArray) (k : Nat) : Prop := ∀ j (h : j < s.size), j < k → notName (num s[j]) = false ∧ (j = 0 → isLetter (num s[j]) = true)
theorem NamePre.zero (s : ByteArray) : NamePre s 0 := fun _ _ h => absurd h (by omega)
theorem NamePre.step {s : ByteArray} {k : Nat} (h : NamePre s k) (hk : k < s.size) (h1 : notName (num s[k]) = false) (h2 : k = 0 → isLetter (num s[k]) = true) : NamePre s (k + 1) := by
  intro j hj hjk
  by_cases e : j = k
  · subst e; exact ⟨h1, h2⟩
  · exact h j hj (by omega)
theorem validName_bad {s : ByteArray} {k : Nat} (hk : k < s.size) (hn : notName (num s[k]) = true) : validName (toL s) = false := by
  obtain ⟨r, e, hr⟩ := toL_first (s := s) (by omega)
  have hm : (toL s).any (fun c => notName (num c)) = true := by
    rw [List.any_eq_true]
    exact ⟨s[k], by rw [← toL_getElem s k hk]; exact List.getElem_mem _, hn⟩
  rw [e] at hm
  rw [e, validName, hm]; simp
theorem validName_good {s : ByteArray} {k : Nat} (h0 : 0 < s.size) (h3 : s.size ≤ 40) (hk : s.size ≤ k) (h : NamePre s k) : validName (toL s) = true := by
  rw [validName_all h0 h3 ((h 0 h0 (by omega)).2 rfl)]
  have : (toL s).any (fun c => notName (num c)) = false := by
    rw [List.any_eq_false]
    intro c hc
    obtain ⟨j, hj, rfl⟩ := List.getElem_of_mem hc
    have hj' : j < s.size := by rw [toL_length] at hj; exact hj
    rw [toL_getElem s j hj']
    simp [(h j hj' (by omega)).1]
  rw [this]; rfl
theorem letter_of (c : Int) : isLetter c = (isLower c || isUpper c) := rfl

end Go.Proofs.YtghjgbkhhoaebaaGreatDoor
