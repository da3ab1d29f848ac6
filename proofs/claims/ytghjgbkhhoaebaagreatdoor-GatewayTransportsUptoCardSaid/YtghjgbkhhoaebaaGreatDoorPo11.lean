/- Lemmas and walks, part 11. -/
import Derived.Test.YtghjgbkhhoaebaaGreatDoorPo6
import Derived.Lib.ItoaNum
import Derived.Test.YtghjgbkhhoaebaaGreatDoorPo4
namespace Go.Proofs.YtghjgbkhhoaebaaGreatDoor
set_option linter.unusedSimpArgs false
set_option linter.unusedVariables false
open Go.Lib (decDigits)

def inN (c : UInt8) : Bool := isLetter (num c) || isDigit (num c) || (num c == 45) || (num c == 95)
/-- A nickname. -/
def nickB (L : Bs) : Bool := match L with
  | [] => false
  | c :: _ => decide (L.length ≤ 16) && isLetter (num c) && L.all inN
/-- Does a text hold a control character, or bytes that are not valid. -/
def ctlB (L : Bs) : Bool := (allF L 0).1.any (fun x => ctlU x.2) || decide ((chkF L).2 ≠ 0)
/-- The error of the text of a line. -/
def textE (L : Bs) : Int := if L.length = 0 then 4 else if 400 < L.length then 5 else if ctlB L then 6 else 0
def minB (n : Int) : Bool := decide (0 ≤ n) && decide (n ≤ 105190559)
def lineE (n : Int) (N T : Bs) : Int := if minB n = false then 2 else if nickB N = false then 12 else textE T
def showL (n : Nat) (N T : Bs) : Bs := 91 :: (decDigits n ++ ([93, 32, 60] ++ (N ++ ([62, 32] ++ T))))
/-- The value of decimal digits. -/
def valD (L : Bs) : Nat := L.foldl (fun v c => 10 * v + (c.toNat - 48)) 0
def digB (c : UInt8) : Bool := isDigit (num c)
def badNum (L : Bs) : Bool := match L with
  | [] => true
  | c :: r => !(L.all digB) || (c == 48 && !r.isEmpty)
def numE (L : Bs) : Nat × Int := if badNum L then (0, 3) else if 105190559 < valD L then (0, 2) else (valD L, 0)
/-- Where a byte first stands. -/
def posF (c : UInt8) (L : Bs) : Nat := (L.takeWhile (· != c)).length
structure Ln where
  min : Nat
  nick : Bs
  text : Bs
def noLn : Ln := ⟨0, [], []⟩
/-- The line of a text, or the offset and the kind of the first error. -/
def parL (L : Bs) : Ln × Nat × Int :=
  if L.take 1 ≠ [91] then (noLn, 0, 3) else
  let k := posF 93 (L.drop 1)
  if ¬ k < (L.drop 1).length then (noLn, 1, 3) else
  if (numE ((L.drop 1).take k)).2 ≠ 0 then (noLn, 1, (numE ((L.drop 1).take k)).2) else
  if (L.drop (k + 2)).take 2 ≠ [32, 60] then (noLn, k + 2, 3) else
  let j := posF 62 (L.drop (k + 4))
  if ¬ j < (L.drop (k + 4)).length then (noLn, k + 4, 12) else
  if nickB ((L.drop (k + 4)).take j) = false then (noLn, k + 4, 12) else
  if (L.drop (k + j + 5)).take 1 ≠ [32] then (noLn, k + j + 5, 3) else
  if textE (L.drop (k + j + 6)) ≠ 0 then (noLn, k + j + 6, textE (L.drop (k + j + 6))) else
  (⟨(numE ((L.drop 1).take k)).1, (L.drop (k + 4)).take j, L.drop (k + j + 6)⟩, 0, 0)

theorem posF_app {c : UInt8} {A : Bs} (h : ∀ x ∈ A, x ≠ c) (B : Bs) : posF c (A ++ c :: B) = A.length := by
  unfold posF
  induction A with
  | nil => simp
  | cons a r ih =>
    have ha : (a != c) = true := by simp; exact h a (by simp)
    rw [List.cons_append, List.takeWhile_cons, if_pos ha, List.length_cons, ih (fun x hx => h x (by simp [hx]))]; rfl
theorem posF_at {c : UInt8} {L : Bs} (h : posF c L < L.length) : L = L.take (posF c L) ++ c :: L.drop (posF c L + 1) ∧ ∀ x ∈ L.take (posF c L), x ≠ c := by
  unfold posF at *
  induction L with
  | nil => simp at h
  | cons a r ih =>
    rw [List.takeWhile_cons] at h ⊢
    by_cases ha : a = c
    · subst ha; simp
    · have hb : (a != c) = true := by simp [ha]
      rw [if_pos hb] at h ⊢
      obtain ⟨h1, h2⟩ := ih (by simpa using h)
      refine ⟨?_, fun x hx => ?_⟩
      · simp only [List.length_cons, List.take_succ_cons, List.drop_succ_cons, List.cons_append]
        congr 1
      · simp only [List.length_cons, List.take_succ_cons, List.mem_cons] at hx
        rcases hx with rfl | hx
        · exact ha
        · exact h2 x hx
theorem dig_of (k : Nat) (h : k < 10) : ∃ d, UInt8.ofNat (48 + k) = d ∧ d.toNat = 48 + k := ⟨_, rfl, by simp [UInt8.toNat_ofNat']; omega⟩
theorem dec_dig (n : Nat) : (∀ c ∈ decDigits n, 48 ≤ c.toNat ∧ c.toNat ≤ 57) ∧ decDigits n ≠ [] ∧ valD (decDigits n) = n ∧ ((decDigits n).head? = some 48 → n = 0) := by
  induction n using Nat.strongRecOn with
  | _ n ih =>
    rw [decDigits]
    split
    · rename_i h
      obtain ⟨d, hd, e⟩ := dig_of n h
      rw [hd]
      refine ⟨by intro c hc; simp at hc; subst hc; omega, by simp, by simp [valD]; omega, fun h => ?_⟩
      simp at h
      have := congrArg UInt8.toNat h
      rw [e] at this
      have h48 : (48 : UInt8).toNat = 48 := rfl
      omega
    · rename_i h
      obtain ⟨h1, h2, h3, h4⟩ := ih (n / 10) (by omega)
      obtain ⟨d, hd, e⟩ := dig_of (n % 10) (by omega)
      rw [hd]
      refine ⟨fun c hc => ?_, by simp, ?_, fun hh => ?_⟩
      · rcases List.mem_append.1 hc with hc | hc
        · exact h1 c hc
        · simp at hc; subst hc; omega
      · unfold valD at h3 ⊢
        rw [List.foldl_append, h3]
        simp; omega
      · rcases hD : decDigits (n / 10) with _ | ⟨c, r⟩
        · exact absurd hD h2
        · rw [hD] at hh h4
          have := h4 (by simpa using hh); omega
theorem dec_len_lt (k n : Nat) (h : n < 10 ^ (k + 1)) : (decDigits n).length ≤ k + 1 := by
  induction k generalizing n with
  | zero => rw [decDigits, dif_pos (by simpa using h)]; simp
  | succ k ih =>
    rw [decDigits]; split
    · simp
    · have := ih (n / 10) (by rw [Nat.pow_succ] at h; omega); simp; omega
theorem numE_dec (n : Nat) (h : n ≤ 105190559) : numE (decDigits n) = (n, 0) := by
  obtain ⟨h1, h2, h3, h4⟩ := dec_dig n
  have hb : badNum (decDigits n) = false := by
    unfold badNum
    split
    · rename_i e; exact absurd e h2
    · rename_i c r e
      rw [e] at h1 h4 h3
      have hall : (c :: r).all digB = true := by
        rw [List.all_eq_true]; intro x hx; have := h1 x hx; simp [digB, isDigit, num]; omega
      rw [e, hall]
      by_cases hc : c = 48
      · subst hc
        have hn := h4 rfl
        subst hn
        have : decDigits 0 = [48] := by rw [decDigits]; rfl
        rw [this] at e; injection e with _ e; subst e; rfl
      · simp [hc]
  unfold numE
  rw [hb, h3]
  simp; omega
theorem digB_nat (c : UInt8) : digB c = true ↔ 48 ≤ c.toNat ∧ c.toNat ≤ 57 := by simp [digB, isDigit, num]; omega
theorem valD_snoc (L : Bs) (c : UInt8) : valD (L ++ [c]) = 10 * valD L + (c.toNat - 48) := by simp [valD, List.foldl_append]
theorem rev_ind {P : Bs → Prop} (h0 : P []) (h1 : ∀ r c, P r → P (r ++ [c])) : ∀ L, P L := by
  intro L
  rw [← List.reverse_reverse L]
  induction L.reverse with
  | nil => exact h0
  | cons c r ih => rw [List.reverse_cons]; exact h1 _ _ ih
theorem drop_app {L A B : Bs} {n : Nat} (h : L = A ++ B) (hn : A.length = n) : L.drop n = B := by subst h; subst hn; simp
theorem valD_pos : ∀ (L : Bs), (∀ c ∈ L, digB c = true) → L.head? ≠ some 48 → L ≠ [] → 0 < valD L := by
  refine rev_ind (fun _ _ h => absurd rfl h) fun r c ih h h0 _ => ?_
  rw [valD_snoc]
  by_cases hr : r = []
  · subst hr
    have hc := (digB_nat c).1 (h c (by simp))
    have hn : c ≠ 48 := fun e => h0 (by rw [e]; rfl)
    have h48 : (48 : UInt8).toNat = 48 := rfl
    have : c.toNat ≠ 48 := fun e => hn (UInt8.toNat_inj.1 (by rw [e, h48]))
    omega
  · have := ih (fun x hx => h x (by simp [hx])) (by
      cases r with
      | nil => exact absurd rfl hr
      | cons a t => simpa using h0) hr
    omega
theorem dec_val : ∀ (L : Bs), badNum L = false → decDigits (valD L) = L := by
  have main : ∀ (L : Bs), (∀ c ∈ L, digB c = true) → L ≠ [] → (L.head? = some 48 → L = [48]) → decDigits (valD L) = L := by
    refine rev_ind (fun _ h _ => absurd rfl h) fun r c ih h _ h0 => ?_
    · have hc := (digB_nat c).1 (h c (by simp))
      have hcn : UInt8.ofNat (48 + (c.toNat - 48)) = c := by
        apply UInt8.toNat_inj.1
        rw [UInt8.toNat_ofNat']
        have := c.toNat_lt; omega
      by_cases hr : r = []
      · subst hr
        simp only [List.nil_append]
        have hv : valD [c] = c.toNat - 48 := by simp [valD]
        rw [hv, decDigits, dif_pos (by omega), hcn]
      · have hh : r.head? ≠ some 48 := by
          cases r with
          | nil => exact absurd rfl hr
          | cons a t =>
            intro e
            have := h0 (by simpa using e)
            simp at this
        have hpos := valD_pos r (fun x hx => h x (by simp [hx])) hh hr
        rw [valD_snoc, decDigits, dif_neg (by omega), show (10 * valD r + (c.toNat - 48)) / 10 = valD r from by omega, show (10 * valD r + (c.toNat - 48)) % 10 = c.toNat - 48 from by omega, hcn]
        rw [ih (fun x hx => h x (by simp [hx])) hr (fun e => absurd e hh)]
  intro L hb
  unfold badNum at hb
  split at hb
  · cases hb
  · rename_i c r
    simp only [Bool.or_eq_false_iff, Bool.not_eq_false', Bool.and_eq_false_iff] at hb
    refine main _ (fun x hx => List.all_eq_true.1 hb.1 x hx) (by simp) fun e => ?_
    simp at e
    subst e
    rcases hb.2 with h | h
    · simp at h
    · simp at h; rw [h]
theorem nick_in {N : Bs} (h : nickB N = true) : ∀ x ∈ N, x ≠ 62 := by
  intro x hx e
  unfold nickB at h
  split at h
  · cases h
  · simp only [Bool.and_eq_true, List.all_eq_true] at h
    have := h.2 x hx
    subst e
    revert this; decide
theorem par_show (n : Nat) (N T : Bs) (h : lineE (n : Int) N T = 0) : parL (showL n N T) = (⟨n, N, T⟩, 0, 0) := by
  unfold lineE at h
  split at h
  · cases h
  · rename_i h1
    split at h
    · cases h
    · rename_i h2
      have hn : n ≤ 105190559 := by simp [minB] at h1; omega
      have hN : nickB N = true := by simpa using h2
      obtain ⟨d1, d2, d3, d4⟩ := dec_dig n
      have hj : ∀ x ∈ N, x ≠ 62 := nick_in hN
      have e0 : (showL n N T).take 1 = [91] := rfl
      have e1 : (showL n N T).drop 1 = decDigits n ++ 93 :: ([32, 60] ++ (N ++ ([62, 32] ++ T))) := rfl
      have k1 : posF 93 (decDigits n ++ 93 :: ([32, 60] ++ (N ++ ([62, 32] ++ T)))) = (decDigits n).length := posF_app (fun x hx e => by have := d1 x hx; subst e; revert this; decide) _
      have e2 : (showL n N T).drop ((decDigits n).length + 2) = [32, 60] ++ (N ++ ([62, 32] ++ T)) := drop_app (A := [91] ++ decDigits n ++ [93]) (by simp [showL]) (by simp)
      have e3 : (showL n N T).drop ((decDigits n).length + 4) = N ++ 62 :: ([32] ++ T) := drop_app (A := [91] ++ decDigits n ++ [93, 32, 60]) (by simp [showL]) (by simp)
      have k2 : posF 62 (N ++ 62 :: ([32] ++ T)) = N.length := posF_app hj _
      have e4 : (showL n N T).drop ((decDigits n).length + N.length + 5) = [32] ++ T := drop_app (A := [91] ++ decDigits n ++ [93, 32, 60] ++ N ++ [62]) (by simp [showL]) (by simp; omega)
      have e5 : (showL n N T).drop ((decDigits n).length + N.length + 6) = T := drop_app (A := [91] ++ decDigits n ++ [93, 32, 60] ++ N ++ [62, 32]) (by simp [showL]) (by simp; omega)
      unfold parL
      simp only [e0, e1, k1, e2, e3, k2, e4, e5, List.take_left, numE_dec n hn]
      simp [hN, h]
/-- What is read is printed the same. -/
theorem show_par (L : Bs) (h : (parL L).2.2 = 0) : showL (parL L).1.min (parL L).1.nick (parL L).1.text = L ∧ lineE ((parL L).1.min : Int) (parL L).1.nick (parL L).1.text = 0 ∧ (parL L).2.1 = 0 := by
  unfold parL at h ⊢
  dsimp only at h ⊢
  split at h
  · simp at h
  rename_i g1
  rw [if_neg g1]
  split at h
  · simp at h
  rename_i g2
  rw [if_neg g2]
  split at h
  · rename_i g; exact absurd h g
  rename_i g3
  rw [if_neg g3]
  split at h
  · simp at h
  rename_i g4
  rw [if_neg g4]
  split at h
  · simp at h
  rename_i g5
  rw [if_neg g5]
  split at h
  · simp at h
  rename_i g6
  rw [if_neg g6]
  split at h
  · simp at h
  rename_i g7
  rw [if_neg g7]
  split at h
  · rename_i g; exact absurd h g
  rename_i g8
  rw [if_neg g8]
  dsimp only
  simp only [Decidable.not_not] at g1 g2 g3 g4 g5 g7 g8
  obtain ⟨p1, _⟩ := posF_at g2
  obtain ⟨p2, _⟩ := posF_at g5
  generalize posF 93 (L.drop 1) = k at *
  generalize posF 62 (L.drop (k + 4)) = j at *
  have hl1 : L = [91] ++ L.drop 1 := by rw [← g1, List.take_append_drop]
  have hl2 : L.drop (k + 2) = [32, 60] ++ L.drop (k + 4) := by
    have := (List.take_append_drop 2 (L.drop (k + 2))).symm
    rw [g4, List.drop_drop] at this; exact this
  have hl3 : L.drop (k + j + 5) = [32] ++ L.drop (k + j + 6) := by
    have := (List.take_append_drop 1 (L.drop (k + j + 5))).symm
    rw [g7, List.drop_drop] at this; exact this
  have hd1 : (L.drop 1).drop (k + 1) = L.drop (k + 2) := by rw [List.drop_drop]; congr 1; omega
  have hd2 : (L.drop (k + 4)).drop (j + 1) = L.drop (k + j + 5) := by rw [List.drop_drop]; congr 1; omega
  rw [hd1] at p1
  rw [hd2] at p2
  have hnum : badNum ((L.drop 1).take k) = false ∧ ¬ 105190559 < valD ((L.drop 1).take k) := by
    unfold numE at g3
    split at g3
    · simp at g3
    · rename_i q1
      split at g3
      · simp at g3
      · rename_i q2; exact ⟨by simpa using q1, q2⟩
  have hne : (numE ((L.drop 1).take k)).1 = valD ((L.drop 1).take k) := by unfold numE; rw [hnum.1, if_neg (by simp), if_neg hnum.2]
  rw [hne]
  have hv := hnum.2
  have hmin : minB ((valD ((L.drop 1).take k) : Nat) : Int) = true := by
    unfold minB; rw [decide_eq_true (by omega), decide_eq_true (by omega)]; rfl
  refine ⟨?_, ?_, rfl⟩
  · unfold showL
    rw [dec_val _ hnum.1]
    conv => rhs; rw [hl1, p1, hl2, p2, hl3]
    simp
  · unfold lineE
    rw [hmin, if_neg (by simp), if_neg g6]
    exact g8
end Go.Proofs.YtghjgbkhhoaebaaGreatDoor

namespace Go.Proofs.YtghjgbkhhoaebaaGreatDoor
set_option linter.unusedSimpArgs false
set_option linter.unusedVariables false
open Go.RowKit

def inNI (c : Int) : Bool := isLetter c || isDigit c || (c == 45) || (c == 95)
theorem inN_num (c : UInt8) : inN c = inNI (num c) := rfl
theorem toL_first' {s : ByteArray} (h : 0 < s.size) : ∃ r, toL s = s[0] :: r ∧ r.length + 1 = s.size := by
  have hl : (toL s).length = s.size := toL_length s
  cases e : toL s with
  | nil => rw [e] at hl; simp at hl; omega
  | cons c r =>
    have := toL_getElem s 0 h
    simp only [e, List.getElem_cons_zero] at this
    exact ⟨r, by rw [this], by rw [e] at hl; simpa using hl⟩
theorem nickB_nil {s : ByteArray} (h : s.size = 0) : nickB (toL s) = false := by rw [List.eq_nil_of_length_eq_zero ((toL_length s).trans h)]; rfl
theorem nickB_long {s : ByteArray} (h : 16 < s.size) : nickB (toL s) = false := by
  obtain ⟨r, e, hr⟩ := toL_first' (s := s) (by omega)
  rw [e]; unfold nickB; rw [decide_eq_false (by simp; omega)]; rfl
theorem nickB_first {s : ByteArray} (h : 0 < s.size) (h4 : isLetter (num s[0]) = false) : nickB (toL s) = false := by
  obtain ⟨r, e, hr⟩ := toL_first' h
  rw [e]; unfold nickB; simp [h4]
def PreN (s : ByteArray) (k : Nat) : Prop := ∀ j (h : j < s.size), j < k → inNI (num s[j]) = true
theorem PreN.zero (s : ByteArray) : PreN s 0 := fun _ _ h => absurd h (by omega)
theorem PreN.step {s : ByteArray} {k : Nat} (h : PreN s k) (hk : k < s.size) (h1 : inNI (num s[k]) = true) : PreN s (k + 1) := by
  intro j hj hjk
  by_cases e : j = k
  · subst e; exact h1
  · exact h j hj (by omega)
theorem nickB_bad {s : ByteArray} {k : Nat} (hk : k < s.size) (hn : inNI (num s[k]) = false) : nickB (toL s) = false := by
  obtain ⟨r, e, hr⟩ := toL_first' (s := s) (by omega)
  have hm : (toL s).all inN = false := by
    rw [List.all_eq_false]
    exact ⟨s[k], by rw [← toL_getElem s k hk]; exact List.getElem_mem _, by rw [inN_num, hn]; simp⟩
  rw [e] at hm ⊢
  unfold nickB; rw [hm]; simp
theorem nickB_good {s : ByteArray} {k : Nat} (h0 : 0 < s.size) (h3 : s.size ≤ 16) (h4 : isLetter (num s[0]) = true) (hk : s.size ≤ k) (h : PreN s k) : nickB (toL s) = true := by
  obtain ⟨r, e, hr⟩ := toL_first' h0
  have hm : (toL s).all inN = true := by
    rw [List.all_eq_true]
    intro c hc
    obtain ⟨j, hj, rfl⟩ := List.getElem_of_mem hc
    have hj' : j < s.size := by rw [toL_length] at hj; exact hj
    rw [toL_getElem s j hj', inN_num]
    exact h j hj' (by omega)
  rw [e] at hm ⊢
  show (decide ((s[0] :: r).length ≤ 16) && isLetter (num s[0]) && (s[0] :: r).all inN) = true
  rw [hm, h4, decide_eq_true (by simp; omega)]; rfl

set_option maxHeartbeats 2000000 in
set_option maxRecDepth 100000 in
theorem gw_inNick (c : Int) (w : World) : Calls Tryz.prog 62 #[.int .u8 c] w fun e w' => e = .returned (.bool (inNI c)) ∧ w = w' := by
  rcases h1 : isLetter c with _ | _ <;> rcases h2 : isDigit c with _ | _ <;> rcases h3 : (c == 45) with _ | _ <;> rcases h4 : (c == 95) with _ | _ <;>
  · have H := Lib.hid (show inNI c = _ from by unfold inNI; rw [h1, h2, h3, h4])
    have H1 := Lib.hid h1; have H2 := Lib.hid h2
    clear h1 h2
    go_enter Tryz.func62, Tryz.ntmps62
    go_wp2_with (first | (go_at_call 61; refine (asc_isLetter _ _).mono ?_; rintro e w' ⟨rfl, rfl⟩; rw [H1.out]) | (go_at_call 56; refine (asc_isDigit _ _).mono ?_; rintro e w' ⟨rfl, rfl⟩; rw [H2.out]))
    go_ret
    exact ⟨ret_bool (by rw [H.out]; rfl), rfl⟩
set_option maxHeartbeats 400000 in
theorem lw_letter (c : Int) (w : World) : Calls Tryz.prog 148 #[.int .u8 c] w fun e w' => e = .returned (.bool (isLetter c)) ∧ w = w' := by
  go_enter Tryz.func148, Tryz.ntmps148
  go_wp2
  all_goals (go_ret; exact ⟨ret_bool (by simp [isLetter, isLower, isUpper, isDigit, *] <;> omega), rfl⟩)
set_option maxHeartbeats 2000000 in
set_option maxRecDepth 100000 in
theorem lw_inner (c : Int) (w : World) : Calls Tryz.prog 149 #[.int .u8 c] w fun e w' => e = .returned (.bool (inNI c)) ∧ w = w' := by
  rcases h1 : isLetter c with _ | _
  all_goals by_cases g1 : 48 ≤ c
  all_goals by_cases g2 : c ≤ 57
  all_goals try (exfalso; omega)
  all_goals rcases h3 : (c == 45) with _ | _
  all_goals rcases h4 : (c == 95) with _ | _
  all_goals
    have H := Lib.hid (show inNI c = _ from by unfold inNI isDigit; rw [h1, h3, h4])
    have H1 := Lib.hid h1
    have G1 := Lib.hid g1; have G2 := Lib.hid g2
    have g1' : 48 ≤ c ∨ c < 48 := by omega
    have g2' : c ≤ 57 ∨ 57 < c := by omega
    first | replace g1' := g1'.resolve_right (by omega) | replace g1' := g1'.resolve_left (by omega)
    first | replace g2' := g2'.resolve_right (by omega) | replace g2' := g2'.resolve_left (by omega)
    clear h1 g1 g2
    go_enter Tryz.func149, Tryz.ntmps149
    go_wp2_with ((go_at_call 148; refine (lw_letter _ _).mono ?_; rintro e w' ⟨rfl, rfl⟩; rw [H1.out]))
    go_ret
    exact ⟨ret_bool (by rw [H.out]; simp [G1.out, G2.out]), rfl⟩
set_option maxHeartbeats 400000 in
theorem gw_isMinute (n : Int) (w : World) : Calls Tryz.prog 34 #[.int .i64 n] w fun e w' => e = .returned (.bool (minB n)) ∧ w = w' := by
  go_enter Tryz.func34, Tryz.ntmps34
  go_wp2
  all_goals (go_ret; exact ⟨ret_bool (by simp [minB, *] <;> omega), rfl⟩)
set_option maxHeartbeats 400000 in
theorem lw_minute (n : Int) (w : World) : Calls Tryz.prog 13 #[.int .i64 n] w fun e w' => e = .returned (.bool (minB n)) ∧ w = w' := by
  go_enter Tryz.func13, Tryz.ntmps13
  go_wp2
  all_goals (go_ret; exact ⟨ret_bool (by simp [minB, *] <;> omega), rfl⟩)
end Go.Proofs.YtghjgbkhhoaebaaGreatDoor

namespace Go.Proofs.YtghjgbkhhoaebaaGreatDoor
set_option linter.unusedSimpArgs false
set_option linter.unusedVariables false
open Go.RowKit

set_option maxHeartbeats 2000000 in
set_option maxRecDepth 100000 in
theorem gw_isNick (s : ByteArray) (w : World) (hs : s.size ≤ maxLen) : Calls Tryz.prog 30 #[.string s] w fun e w' => e = .returned (.bool (nickB (toL s))) ∧ w = w' := by
  unfold maxLen at hs
  by_cases h0 : s.size = 0
  · have H := Lib.hid (nickB_nil h0)
    have h1 : (s.size : Int) < 1 := by omega
    clear h0
    go_enter Tryz.func30, Tryz.ntmps30
    go_wp2_with fail
    go_ret
    exact ⟨ret_bool H.out.symm, rfl⟩
  · have h2 : 0 < s.size := by omega
    have h1 : (1 : Int) ≤ (s.size : Int) := by omega
    clear h0
    by_cases h3 : s.size ≤ 16
    · have h5 : (s.size : Int) ≤ 16 := by omega
      by_cases h4 : isLetter (num s[0]) = true
      · have HG := Lib.hid (fun k => nickB_good (k := k) h2 h3 h4)
        have HB := Lib.hid (fun k (hk : k < s.size) => nickB_bad (s := s) hk)
        have H4 := Lib.hid h4
        clear h4
        go_enter Tryz.func30, Tryz.ntmps30
        go_wp2_with ((go_at_call 61; refine (asc_isLetter _ _).mono ?_; rintro e w' ⟨rfl, rfl⟩; rw [H4.out]))
        go_loop [20, 3] (fun v _ => ∃ k : Nat, k ≤ s.size ∧ v = .int .i64 (k : Int) ∧ PreN s k) (fun v _ => s.size - (intOf v).toNat)
        case atStart => exact ⟨0, by omega, rfl, PreN.zero s⟩
        case round =>
          obtain ⟨k, hk, rfl, hp⟩ := hrel
          have HP := Lib.hid hp; clear hp
          have k0 : (0 : Int) ≤ (k : Int) := by omega
          by_cases hlt : k < s.size
          · have k1 : (k : Int) < (s.size : Int) := by omega
            rcases hc : inNI (num (s[k]'hlt)) with _ | _
            · have HR := Lib.hid (HB.out k hlt hc)
              have HC := Lib.hid hc
              clear hc
              go_wp2_with ((go_at_call 62; (with_reducible refine (gw_inNick _ _).mono ?_); rintro e w' ⟨rfl, rfl⟩; rw [HC.out]))
              go_ret
              exact ⟨ret_bool HR.out.symm, rfl⟩
            · have HN := Lib.hid (HP.out.step hlt hc)
              have HC := Lib.hid hc
              clear hc
              go_wp2_with ((go_at_call 62; (with_reducible refine (gw_inNick _ _).mono ?_); rintro e w' ⟨rfl, rfl⟩; rw [HC.out]))
              go_round
              case rel => exact ⟨k + 1, by omega, by go_num, HN.out⟩
              case measure => simp [intOf] <;> omega
          · have k1 : (s.size : Int) ≤ (k : Int) := by omega
            have HR := Lib.hid (HG.out k (by omega) HP.out)
            go_wp2_with fail
            go_ret
            exact ⟨ret_bool HR.out.symm, rfl⟩
      · have h4' : isLetter (num s[0]) = false := by simpa using h4
        have H := Lib.hid (nickB_first h2 h4')
        have H4 := Lib.hid h4'
        clear h4 h4'
        go_enter Tryz.func30, Tryz.ntmps30
        go_wp2_with ((go_at_call 61; refine (asc_isLetter _ _).mono ?_; rintro e w' ⟨rfl, rfl⟩; rw [H4.out]))
        go_ret
        exact ⟨ret_bool H.out.symm, rfl⟩
    · have h5 : (16 : Int) < (s.size : Int) := by omega
      have H := Lib.hid (nickB_long (s := s) (by omega))
      clear h3
      go_enter Tryz.func30, Tryz.ntmps30
      go_wp2_with fail
      go_ret
      exact ⟨ret_bool H.out.symm, rfl⟩
set_option maxHeartbeats 2000000 in
set_option maxRecDepth 100000 in
theorem lw_nick (s : ByteArray) (w : World) (hs : s.size ≤ maxLen) : Calls Tryz.prog 134 #[.string s] w fun e w' => e = .returned (.bool (nickB (toL s))) ∧ w = w' := by
  unfold maxLen at hs
  by_cases h0 : s.size = 0
  · have H := Lib.hid (nickB_nil h0)
    have h1 : s.toList = [] := toList_nil h0
    clear h0
    go_enter Tryz.func134, Tryz.ntmps134
    go_wp2_with fail
    go_ret
    exact ⟨ret_bool H.out.symm, rfl⟩
  · have h2 : 0 < s.size := by omega
    have h1 : s.toList.isEmpty = false := toList_cons h0
    clear h0
    by_cases h3 : s.size ≤ 16
    · have h5 : (s.size : Int) ≤ 16 := by omega
      by_cases h4 : isLetter (num s[0]) = true
      · have HG := Lib.hid (fun k => nickB_good (k := k) h2 h3 h4)
        have HB := Lib.hid (fun k (hk : k < s.size) => nickB_bad (s := s) hk)
        have H4 := Lib.hid h4
        clear h4
        go_enter Tryz.func134, Tryz.ntmps134
        go_wp2_with ((go_at_call 148; refine (lw_letter _ _).mono ?_; rintro e w' ⟨rfl, rfl⟩; rw [H4.out]))
        go_loop [3] (fun v => ∃ k : Nat, k ≤ s.size ∧ v = .int .i64 (k : Int) ∧ PreN s k) (fun v => s.size - (intOf v).toNat)
        case atStart => exact ⟨0, by omega, rfl, PreN.zero s⟩
        case round =>
          obtain ⟨k, hk, rfl, hp⟩ := hrel
          have HP := Lib.hid hp; clear hp
          have k0 : (0 : Int) ≤ (k : Int) := by omega
          by_cases hlt : k < s.size
          · have k1 : (k : Int) < (s.size : Int) := by omega
            rcases hc : inNI (num (s[k]'hlt)) with _ | _
            · have HR := Lib.hid (HB.out k hlt hc)
              have HC := Lib.hid hc
              clear hc
              go_wp2_with ((go_at_call 149; (with_reducible refine (lw_inner _ _).mono ?_); rintro e w' ⟨rfl, rfl⟩; rw [HC.out]))
              go_ret
              exact ⟨ret_bool HR.out.symm, rfl⟩
            · have HN := Lib.hid (HP.out.step hlt hc)
              have HC := Lib.hid hc
              clear hc
              go_wp2_with ((go_at_call 149; (with_reducible refine (lw_inner _ _).mono ?_); rintro e w' ⟨rfl, rfl⟩; rw [HC.out]))
              go_round
              case rel => exact ⟨k + 1, by omega, by go_num, HN.out⟩
              case measure => simp [intOf] <;> omega
          · have k1 : (s.size : Int) ≤ (k : Int) := by omega
            have HR := Lib.hid (HG.out k (by omega) HP.out)
            go_wp2_with fail
            go_ret
            exact ⟨ret_bool HR.out.symm, rfl⟩
      · have h4' : isLetter (num s[0]) = false := by simpa using h4
        have H := Lib.hid (nickB_first h2 h4')
        have H4 := Lib.hid h4'
        clear h4 h4'
        go_enter Tryz.func134, Tryz.ntmps134
        go_wp2_with ((go_at_call 148; refine (lw_letter _ _).mono ?_; rintro e w' ⟨rfl, rfl⟩; rw [H4.out]))
        go_ret
        exact ⟨ret_bool H.out.symm, rfl⟩
    · have h5 : (16 : Int) < (s.size : Int) := by omega
      have H := Lib.hid (nickB_long (s := s) (by omega))
      clear h3
      go_enter Tryz.func134, Tryz.ntmps134
      go_wp2_with fail
      go_ret
      exact ⟨ret_bool H.out.symm, rfl⟩
end Go.Proofs.YtghjgbkhhoaebaaGreatDoor

namespace Go.Proofs.YtghjgbkhhoaebaaGreatDoor
set_option linter.unusedSimpArgs false
set_option linter.unusedVariables false
open Go.Lib (decDigits)

/-- The bytes of a name that may stand in a nickname. -/
def keepN (acc : Bs) : Bs → Bs
  | [] => acc
  | c :: r => keepN (if isLetter (num c) || (!acc.isEmpty && inN c) then acc ++ [c] else acc) r
def baseN (name : Bs) : Bs := if keepN [] name = [] then [103, 117, 101, 115, 116] else keepN [] name
/-- The n-th nickname; the base itself is the first one. -/
def nthN (b : Bs) (n : Nat) : Bs := if n ≤ 1 then b.take 16 else b.take (16 - (decDigits n).length) ++ decDigits n
def takenB (s : Bs) (l : List Bs) : Bool := l.any fun x => decide (lowerL x = lowerL s)
/-- The first free one from n on, in so many trials. -/
def firstN (b : Bs) (l : List Bs) : Nat → Nat → Nat
  | 0, n => n
  | f + 1, n => if takenB (nthN b n) l then firstN b l f (n + 1) else n
def chooseN (name : Bs) (l : List Bs) : Bs := nthN (baseN name) (firstN (baseN name) l 3000 1)

theorem keep_ok : ∀ (L acc : Bs), (acc = [] ∨ ∃ c r, acc = c :: r ∧ isLetter (num c) = true ∧ r.all inN = true) → keepN acc L = [] ∨ ∃ c r, keepN acc L = c :: r ∧ isLetter (num c) = true ∧ r.all inN = true
  | [], acc, h => by rw [keepN]; exact h
  | x :: L, acc, h => by
    rw [keepN]
    split
    · rename_i hx
      refine keep_ok L _ (.inr ?_)
      rcases h with rfl | ⟨c, r, rfl, h1, h2⟩
      · exact ⟨x, [], rfl, by simpa using hx, rfl⟩
      · refine ⟨c, r ++ [x], rfl, h1, ?_⟩
        rw [List.all_append, h2]
        simp at hx
        rcases hx with hx | hx
        · simp [inN, hx]
        · simp [hx]
    · exact keep_ok L _ h
theorem base_ok (name : Bs) : ∃ c r, baseN name = c :: r ∧ isLetter (num c) = true ∧ r.all inN = true := by
  unfold baseN
  split
  · exact ⟨103, [117, 101, 115, 116], rfl, by decide, by decide⟩
  · rename_i h
    rcases keep_ok name [] (.inl rfl) with h1 | h1
    · exact absurd h1 h
    · exact h1
theorem keep_len : ∀ (L acc : Bs), (keepN acc L).length ≤ acc.length + L.length
  | [], acc => by simp [keepN]
  | x :: L, acc => by
    rw [keepN]
    split
    · have := keep_len L (acc ++ [x]); simp at this ⊢; omega
    · have := keep_len L acc; simp; omega
theorem base_len (name : Bs) : (baseN name).length ≤ name.length + 5 := by
  unfold baseN; split
  · simp
  · have := keep_len name []; simp at this; omega
theorem dec_inj {m n : Nat} (h : decDigits m = decDigits n) : m = n := by
  have h1 := (dec_dig m).2.2.1
  have h2 := (dec_dig n).2.2.1
  rw [h] at h1; omega
theorem dec_len4 {n : Nat} (h1 : 1000 ≤ n) (h2 : n < 10000) : (decDigits n).length = 4 := by
  have g (m : Nat) (h : ¬ m < 10) : (decDigits m).length = (decDigits (m / 10)).length + 1 := by rw [decDigits, dif_neg h]; simp
  have z (m : Nat) (h : m < 10) : (decDigits m).length = 1 := by rw [decDigits, dif_pos h]; simp
  rw [g n (by omega), g (n / 10) (by omega), g (n / 10 / 10) (by omega), z _ (by omega)]
theorem lower_dig {c : UInt8} (h : 48 ≤ c.toNat ∧ c.toNat ≤ 57) : lowerB c = c := by
  unfold lowerB; rw [if_neg]; simp [isUpper, num]; omega
theorem lower_dec (n : Nat) : lowerL (decDigits n) = decDigits n := by
  unfold lowerL
  conv => rhs; rw [← List.map_id (decDigits n)]
  exact List.map_congr_left fun c hc => lower_dig ((dec_dig n).1 c hc)
/-- Two nicknames with numbers of four digits are not alike. -/
theorem nth_inj (b : Bs) {m n : Nat} (h1 : 1000 ≤ m) (h2 : m < 10000) (h3 : 1000 ≤ n) (h4 : n < 10000) (h : lowerL (nthN b m) = lowerL (nthN b n)) : m = n := by
  unfold nthN at h
  rw [if_neg (by omega), if_neg (by omega), dec_len4 h1 h2, dec_len4 h3 h4] at h
  simp only [lowerL, List.map_append] at h
  have := List.append_cancel_left h
  have g1 := lower_dec m; have g2 := lower_dec n
  unfold lowerL at g1 g2
  rw [g1, g2] at this
  exact dec_inj this
/-- Among so many nicknames that are all unlike, one is free. -/
theorem pigeon {α : Type} [DecidableEq α] : ∀ (l : List α) (f : Nat → α) (n : Nat), (∀ i j, i < n → j < n → f i = f j → i = j) → l.length < n → ∃ i, i < n ∧ f i ∉ l := by
  intro l
  induction l with
  | nil => intro f n _ h; exact ⟨0, h, by simp⟩
  | cons a r ih =>
    intro f n hf h
    by_cases ha : ∃ k, k < n ∧ f k = a
    · obtain ⟨k, hk, hka⟩ := ha
      obtain ⟨i, hi, hr⟩ := ih (fun i => if i < k then f i else f (i + 1)) (n - 1) (fun i j h1 h2 e => by
        split at e <;> split at e
        · exact hf _ _ (by omega) (by omega) e
        · have := hf _ _ (by omega) (by omega) e; omega
        · have := hf _ _ (by omega) (by omega) e; omega
        · have := hf _ _ (by omega) (by omega) e; omega) (by simp at h; omega)
      split at hr
      · refine ⟨i, by omega, fun hm => ?_⟩
        rcases List.mem_cons.1 hm with e | hm
        · have := hf _ _ (by omega) hk (e.trans hka.symm); omega
        · exact hr hm
      · refine ⟨i + 1, by omega, fun hm => ?_⟩
        rcases List.mem_cons.1 hm with e | hm
        · have := hf _ _ (by omega) hk (e.trans hka.symm); omega
        · exact hr hm
    · obtain ⟨i, hi, hr⟩ := ih f n hf (by simp at h; omega)
      exact ⟨i, hi, fun hm => by
        rcases List.mem_cons.1 hm with e | hm
        · exact ha ⟨i, hi, e⟩
        · exact hr hm⟩
theorem free_ex (b : Bs) (l : List Bs) (hl : l.length ≤ 1000) : ∃ n, 1000 ≤ n ∧ n ≤ 2000 ∧ takenB (nthN b n) l = false := by
  obtain ⟨i, hi, hn⟩ := pigeon (l.map lowerL) (fun i => lowerL (nthN b (1000 + i))) 1001 (fun i j h1 h2 e => by
    have := nth_inj b (by omega) (by omega) (by omega) (by omega) e; omega) (by simp; omega)
  refine ⟨1000 + i, by omega, by omega, ?_⟩
  unfold takenB
  rw [List.any_eq_false]
  intro x hx
  simp only [decide_eq_true_eq]
  intro e
  exact hn (List.mem_map.2 ⟨x, hx, e⟩)
theorem first_free (b : Bs) (l : List Bs) : ∀ (f n : Nat), (∃ k, n ≤ k ∧ k < n + f ∧ takenB (nthN b k) l = false) → takenB (nthN b (firstN b l f n)) l = false ∧ n ≤ firstN b l f n ∧ firstN b l f n < n + f ∧ ∀ k, n ≤ k → k < firstN b l f n → takenB (nthN b k) l = true
  | 0, n, ⟨k, h1, h2, _⟩ => by omega
  | f + 1, n, ⟨k, h1, h2, h3⟩ => by
    rw [firstN]
    split
    · rename_i ht
      have hkn : k ≠ n := fun e => by subst e; rw [ht] at h3; cases h3
      obtain ⟨g1, g2, g3, g4⟩ := first_free b l f (n + 1) ⟨k, by omega, by omega, h3⟩
      refine ⟨g1, by omega, by omega, fun j hj hlt => ?_⟩
      by_cases e : j = n
      · subst e; exact ht
      · exact g4 j (by omega) hlt
    · rename_i ht
      exact ⟨by simpa using ht, by omega, by omega, fun j h1 h2 => by omega⟩
theorem choose_free (b : Bs) (l : List Bs) (hl : l.length ≤ 1000) : takenB (nthN b (firstN b l 3000 1)) l = false ∧ 1 ≤ firstN b l 3000 1 ∧ firstN b l 3000 1 ≤ 2000 ∧ ∀ k, 1 ≤ k → k < firstN b l 3000 1 → takenB (nthN b k) l = true := by
  obtain ⟨n, h1, h2, h3⟩ := free_ex b l hl
  obtain ⟨g1, g2, g3, g4⟩ := first_free b l 3000 1 ⟨n, by omega, by omega, h3⟩
  refine ⟨g1, g2, ?_, g4⟩
  rcases Nat.lt_or_ge n (firstN b l 3000 1) with h | h
  · have := g4 n (by omega) h; rw [h3] at this; cases this
  · omega
/-- Every nickname of the row is one. -/
theorem nth_ok {b : Bs} (hb : ∃ c r, b = c :: r ∧ isLetter (num c) = true ∧ r.all inN = true) {n : Nat} (hn : n < 100000) : nickB (nthN b n) = true := by
  obtain ⟨c, r, rfl, h1, h2⟩ := hb
  have hd : (decDigits n).length ≤ 5 := dec_len_lt 4 n (by simpa using hn)
  have hall : (c :: r).all inN = true := by simp [h2, inN, h1]
  have hdig : (decDigits n).all inN = true := by
    rw [List.all_eq_true]; intro x hx
    have := (dec_dig n).1 x hx
    simp [inN, isDigit, num]; left; left; right; omega
  unfold nthN
  split
  · have e : (c :: r).take 16 = c :: r.take 15 := rfl
    rw [e]
    unfold nickB
    simp only [h1, Bool.and_true, Bool.and_eq_true, decide_eq_true_eq]
    refine ⟨by simp; omega, ?_⟩
    rw [← e]
    rw [List.all_eq_true] at hall ⊢
    exact fun x hx => hall x (List.mem_of_mem_take hx)
  · have e : (c :: r).take (16 - (decDigits n).length) = c :: r.take (15 - (decDigits n).length) := by
      rw [show 16 - (decDigits n).length = (15 - (decDigits n).length) + 1 from by omega]; rfl
    rw [e, List.cons_append]
    unfold nickB
    simp only [h1, Bool.and_true, Bool.and_eq_true, decide_eq_true_eq]
    refine ⟨by simp; omega, ?_⟩
    rw [← List.cons_append, ← e, List.all_append, hdig]
    rw [List.all_eq_true] at hall
    simp only [Bool.and_true]
    rw [List.all_eq_true]
    exact fun x hx => hall x (List.mem_of_mem_take hx)
end Go.Proofs.YtghjgbkhhoaebaaGreatDoor

namespace Go.Proofs.YtghjgbkhhoaebaaGreatDoor
set_option linter.unusedSimpArgs false
set_option linter.unusedVariables false

/-- The lines of a body from an offset on, behind those that have been read; in so many rounds. -/
def linR (L : Bs) : Nat → Nat → List Ln → List Ln × Nat × Int
  | 0, _, out => (out, 0, 0)
  | f + 1, a, out =>
    if ¬ a < L.length then (out, 0, 0) else
    if ¬ posF 10 (L.drop a) < (L.drop a).length then ([], L.length, 4) else
    if (parL ((L.drop a).take (posF 10 (L.drop a)))).2.2 ≠ 0 then ([], a + (parL ((L.drop a).take (posF 10 (L.drop a)))).2.1, (parL ((L.drop a).take (posF 10 (L.drop a)))).2.2) else
    linR L f (a + posF 10 (L.drop a) + 1) (out ++ [(parL ((L.drop a).take (posF 10 (L.drop a)))).1])
def linF (L : Bs) : List Ln × Nat × Int := linR L (L.length + 1) 0 []
/-- More rounds than bytes left change nothing. -/
theorem linR_more (L : Bs) : ∀ (f g a : Nat) (out : List Ln), L.length < a + f → f ≤ g → linR L g a out = linR L f a out := by
  intro f
  induction f with
  | zero =>
    intro g a out h _
    cases g with
    | zero => rfl
    | succ g => rw [linR, linR, if_pos (by omega)]
  | succ f ih =>
    intro g a out h hg
    cases g with
    | zero => omega
    | succ g =>
      rw [linR, linR]
      split
      · rfl
      · split
        · rfl
        · split
          · rfl
          · exact ih g _ _ (by omega) (by omega)
abbrev lnK (L : Bs) (a : Nat) : Nat := posF 10 (L.drop a)
abbrev lnT (L : Bs) (a : Nat) : Bs := (L.drop a).take (lnK L a)
/-- The state of reading: what is still to come. -/
def LinAt (L : Bs) (a : Nat) (out : List Ln) : Prop := linF L = linR L (L.length + 1 - a) a out ∧ a ≤ L.length ∧ out.length ≤ a
theorem LinAt.zero (L : Bs) : LinAt L 0 [] := ⟨rfl, by omega, by simp⟩
theorem LinAt.done {L : Bs} {a : Nat} {out : List Ln} (h : LinAt L a out) (ha : L.length ≤ a) : linF L = (out, 0, 0) := by
  rw [h.1, show L.length + 1 - a = (L.length - a) + 1 from by have := h.2.1; omega, linR, if_pos (by omega)]
theorem LinAt.open_ {L : Bs} {a : Nat} {out : List Ln} (h : LinAt L a out) (ha : a < L.length) (hk : ¬ lnK L a < (L.drop a).length) : linF L = ([], L.length, 4) := by
  rw [h.1, show L.length + 1 - a = (L.length - a) + 1 from by omega, linR, if_neg (by omega), if_pos hk]
theorem LinAt.bad {L : Bs} {a : Nat} {out : List Ln} (h : LinAt L a out) (ha : a < L.length) (hk : lnK L a < (L.drop a).length) (he : (parL (lnT L a)).2.2 ≠ 0) : linF L = ([], a + (parL (lnT L a)).2.1, (parL (lnT L a)).2.2) := by
  rw [h.1, show L.length + 1 - a = (L.length - a) + 1 from by omega, linR, if_neg (by omega), if_neg (fun h => h hk), if_pos he]
theorem LinAt.next {L : Bs} {a : Nat} {out : List Ln} (h : LinAt L a out) (ha : a < L.length) (hk : lnK L a < (L.drop a).length) (he : (parL (lnT L a)).2.2 = 0) : LinAt L (a + lnK L a + 1) (out ++ [(parL (lnT L a)).1]) := by
  have hk' := hk
  rw [List.length_drop] at hk'
  refine ⟨?_, by omega, by have := h.2.2; simp; omega⟩
  rw [h.1, show L.length + 1 - a = (L.length - a) + 1 from by omega, linR, if_neg (by omega), if_neg (fun h => h hk), if_neg (fun h => h he)]
  have hx : lnK L a + a < L.length := by omega
  have hy : posF 10 (L.drop a) = lnK L a := rfl
  rw [hy]
  exact linR_more L _ _ _ _ (by omega) (by omega)
theorem linR_len (L : Bs) : ∀ (f a : Nat) (out : List Ln), out.length ≤ a → a ≤ L.length → (linR L f a out).1.length ≤ L.length := by
  intro f
  induction f with
  | zero => intro a out h h2; rw [linR]; simp; omega
  | succ f ih =>
    intro a out h h2
    rw [linR]
    split
    · simp; omega
    · split
      · simp
      · split
        · simp
        · rename_i hk _
          simp only [Decidable.not_not] at hk
          rw [List.length_drop] at hk
          exact ih _ _ (by simp; omega) (by omega)
theorem linF_len (L : Bs) : (linF L).1.length ≤ L.length := linR_len L _ _ _ (by simp) (by omega)
end Go.Proofs.YtghjgbkhhoaebaaGreatDoor
