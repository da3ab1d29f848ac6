/- Lemmas and walks, part 26. -/
import Derived.Test.YtghjgbkhhoaebaaGreatDoorPo11
import Derived.Test.YtghjgbkhhoaebaaGreatDoorPo3
import Derived.Lib.SplitLaws
import Derived.Lib.IndexBytes
import Derived.Lib.IndexLaws
namespace Go.Proofs.YtghjgbkhhoaebaaGreatDoor
set_option linter.unusedSimpArgs false
set_option linter.unusedVariables false

def isMark (c : UInt8) : Bool := c == (46 : UInt8)
/-- The pieces between marks; cur: what has been read of the current one. -/
def splitAux : Bs → Bs → List Bs
  | [], cur => [cur]
  | c :: r, cur => if isMark c then cur :: splitAux r [] else splitAux r (cur ++ [c])
def splitM (l : Bs) : List Bs := splitAux l []
theorem splitAux_ne (l : Bs) : ∀ cur, splitAux l cur ≠ [] := by
  induction l with
  | nil => intro cur; simp [splitAux]
  | cons c r ih => intro cur; rw [splitAux]; split <;> simp [ih]
theorem splitAux_run (x : Bs) (hx : ∀ c ∈ x, isMark c = false) : ∀ cur r, splitAux (x ++ r) cur = splitAux r (cur ++ x) := by
  induction x with
  | nil => intro cur r; simp
  | cons c x ih =>
    intro cur r
    rw [List.cons_append, splitAux, if_neg (by simp [hx c (by simp)]), ih (fun c hc => hx c (by simp [hc]))]
    simp
def markS : ByteArray := ⟨#[46]⟩
theorem markS_size : markS.size = 1 := rfl
theorem indexB_mark (s : ByteArray) : Lib.indexB s markS = Lib.indexByte (toL s) 46 := by
  show Lib.index (toL s) [46] = _
  exact Lib.index_one _ _
theorem split_none (l : Bs) (h : ∀ c ∈ l, isMark c = false) : splitM l = [l] := by
  have := splitAux_run l h [] []
  simpa [splitM, splitAux] using this
theorem split_some (x r : Bs) (h : ∀ c ∈ x, isMark c = false) : splitM (x ++ 46 :: r) = x :: splitM r := by
  unfold splitM
  rw [splitAux_run x h, splitAux, if_pos (by rfl)]; simp
theorem split_lib : ∀ (k : Nat) (s : ByteArray), Lib.countB s markS = k → (Lib.splitB markS 0 k s).map toL = splitM (toL s) := by
  intro k
  induction k with
  | zero =>
    intro s hk
    rcases Lib.indexB_cases s markS with hix | ⟨i, hix, hroom⟩
    · rw [Lib.splitB_miss _ _ _ _ hix]
      rw [indexB_mark] at hix
      have hn := Lib.indexByte_none hix
      rw [split_none _ (fun c hc => by
        obtain ⟨j, hj, rfl⟩ := List.getElem_of_mem hc
        have := hn j
        rw [List.getElem?_eq_getElem hj] at this
        unfold isMark; rw [beq_eq_false_iff_ne]; intro e; rw [e] at this; exact this rfl)]
      rfl
    · have := Lib.countB_hit s markS i (by decide) hix
      omega
  | succ k ih =>
    intro s hk
    rcases Lib.indexB_cases s markS with hix | ⟨i, hix, hroom⟩
    · rw [Lib.countB_miss _ _ hix] at hk; omega
    · have hc := Lib.countB_hit s markS i (by decide) hix
      rw [Lib.splitB_hit _ _ _ _ _ hix, List.map_cons, ih _ (by omega)]
      rw [indexB_mark] at hix
      obtain ⟨h1, h2⟩ := Lib.indexByte_some hix
      have hil : i < (toL s).length := by
        rcases Nat.lt_or_ge i (toL s).length with h | h
        · exact h
        · rw [List.getElem?_eq_none h] at h1; cases h1
      have hi46 : (toL s)[i] = 46 := by rw [List.getElem?_eq_getElem hil] at h1; simpa using h1
      have e : toL s = (toL s).take i ++ 46 :: (toL s).drop (i + 1) := by
        conv => lhs; rw [← List.take_append_drop i (toL s), List.drop_eq_getElem_cons hil, hi46]
      have hm : ∀ c ∈ (toL s).take i, isMark c = false := fun c hc => by
        obtain ⟨j, hj, rfl⟩ := List.getElem_of_mem hc
        rw [List.getElem_take]
        have hj' : j < i := by rw [List.length_take] at hj; omega
        have := h2 j hj'
        rw [List.getElem?_eq_getElem (by omega)] at this
        unfold isMark; rw [beq_eq_false_iff_ne]; intro e; rw [e] at this; exact this rfl
      conv => rhs; rw [e]
      rw [split_some _ _ hm, extract_toL, extract_toL, markS_size]
      congr 1
      congr 1
      unfold cutL
      rw [List.take_of_length_le]
      rw [List.length_drop, toL_length]
      exact Nat.le_refl _
theorem split_len (s : ByteArray) : Lib.countB s markS + 1 = (splitM (toL s)).length := by
  rw [← split_lib _ s rfl, List.length_map, Lib.splitB_all _ (by decide) _ _ _ rfl]
theorem split_cells (s : ByteArray) : (Lib.splitB markS 0 (Lib.countB s markS) s).map Value.string = strsL (splitM (toL s)) := by
  rw [← split_lib _ s rfl, strsL, List.map_map]
  apply List.map_congr_left
  intro x _
  simp [ofL_toL]
theorem splitAux_sum (l : Bs) : ∀ cur, (splitAux l cur).length ≤ l.length + 1 ∧ ∀ x ∈ splitAux l cur, x.length ≤ cur.length + l.length := by
  induction l with
  | nil => intro cur; simp [splitAux]
  | cons c r ih =>
    intro cur
    rw [splitAux]
    split
    · have := ih []
      refine ⟨by simp; omega, fun x hx => ?_⟩
      rcases List.mem_cons.1 hx with rfl | hx
      · omega
      · have := this.2 x hx; simp at this ⊢; omega
    · have := ih (cur ++ [c])
      refine ⟨by simp; omega, fun x hx => ?_⟩
      have := this.2 x hx; simp at this ⊢; omega
end Go.Proofs.YtghjgbkhhoaebaaGreatDoor

namespace Go.Proofs.YtghjgbkhhoaebaaGreatDoor
set_option linter.unusedSimpArgs false
set_option linter.unusedVariables false

def notG (c : Int) : Bool := !isLower c && !isDigit c && (c != 45) && (c != 43) && (c != 95)
/-- A component of a group's name. -/
def compG (x : Bs) : Bool := match x with
  | [] => false
  | c :: _ => decide (x.length ≤ 20) && isLower (num c) && !(x.any fun c => notG (num c))
/-- The error of a group's name. -/
def grpE (L : Bs) : Int := if 80 < L.length then 5 else if (splitM L).any (fun x => !compG x) then 12 else if 10 < (splitM L).length then 9 else 0
def notR (c : Int) : Bool := !isLower c && !isDigit c && (c != 45)
/-- The name of a room. -/
def roomB (L : Bs) : Bool := match L with
  | [] => false
  | c :: r => decide (1 ≤ r.length) && decide (r.length ≤ 30) && (c == 35) && !(r.any fun c => notR (num c))
def newE (R G N : Bs) : Int := if roomB R = false then 3 else if grpE G ≠ 0 then grpE G else if nickB N = false then 12 else 0
end Go.Proofs.YtghjgbkhhoaebaaGreatDoor

namespace Go.Proofs.YtghjgbkhhoaebaaGreatDoor
set_option linter.unusedSimpArgs false
set_option linter.unusedVariables false
open Go.RowKit

theorem roomB_cons (c : UInt8) (r : Bs) : roomB (c :: r) = (decide (1 ≤ r.length) && decide (r.length ≤ 30) && (c == 35) && !(r.any fun c => notR (num c))) := rfl
theorem room_short {s : ByteArray} (h : s.size < 2) : roomB (toL s) = false := by
  by_cases h0 : s.size = 0
  · rw [List.eq_nil_of_length_eq_zero ((toL_length s).trans h0)]; rfl
  · obtain ⟨r, e, hr⟩ := toL_first' (s := s) (by omega)
    rw [e, roomB_cons, decide_eq_false (show ¬ 1 ≤ r.length by omega)]; rfl
theorem room_long {s : ByteArray} (h : 31 < s.size) : roomB (toL s) = false := by
  obtain ⟨r, e, hr⟩ := toL_first' (s := s) (by omega)
  rw [e, roomB_cons, decide_eq_false (show ¬ r.length ≤ 30 by omega)]; simp
theorem room_first {s : ByteArray} (h : 0 < s.size) (h4 : (num s[0] == 35) = false) : roomB (toL s) = false := by
  obtain ⟨r, e, hr⟩ := toL_first' h
  have : (s[0] == (35 : UInt8)) = false := by
    rw [show (num s[0] == 35) = decide (s[0] = 35) from numq _ 35 (by omega)] at h4
    simpa using h4
  rw [e, roomB_cons]; simp [this]
def PreR (s : ByteArray) (k : Nat) : Prop := ∀ j (h : j < s.size), 1 ≤ j → j < k → notR (num s[j]) = false
theorem PreR.one (s : ByteArray) : PreR s 1 := fun _ _ h1 h2 => by omega
theorem PreR.step {s : ByteArray} {k : Nat} (h : PreR s k) (hk : k < s.size) (h1 : notR (num s[k]) = false) : PreR s (k + 1) := by
  intro j hj hj1 hjk
  by_cases e : j = k
  · subst e; exact h1
  · exact h j hj hj1 (by omega)
theorem tail_at {s : ByteArray} {r : Bs} {c : UInt8} (e : toL s = c :: r) (j : Nat) (hj : j + 1 < s.size) (hr : j < r.length) : r[j] = s[j + 1] := by
  have := toL_getElem s (j + 1) hj
  simp only [e, List.getElem_cons_succ] at this
  exact this
theorem room_bad {s : ByteArray} {k : Nat} (h1 : 1 ≤ k) (hk : k < s.size) (hn : notR (num s[k]) = true) : roomB (toL s) = false := by
  obtain ⟨r, e, hr⟩ := toL_first' (s := s) (by omega)
  have hm : (r.any fun c => notR (num c)) = true := by
    rw [List.any_eq_true]
    refine ⟨r[k - 1]'(by omega), List.getElem_mem _, ?_⟩
    rw [tail_at e (k - 1) (by omega) (by omega)]
    simp only [show k - 1 + 1 = k from by omega]
    exact hn
  rw [e, roomB_cons, hm]; simp
theorem room_good {s : ByteArray} {k : Nat} (h0 : 2 ≤ s.size) (h3 : s.size ≤ 31) (h4 : (num s[0] == 35) = true) (hk : s.size ≤ k) (h : PreR s k) : roomB (toL s) = true := by
  obtain ⟨r, e, hr⟩ := toL_first' (s := s) (by omega)
  have hm : (r.any fun c => notR (num c)) = false := by
    rw [List.any_eq_false]
    intro c hc
    obtain ⟨j, hj, rfl⟩ := List.getElem_of_mem hc
    rw [tail_at e j (by omega) hj]
    simp [h (j + 1) (by omega) (by omega) (by omega)]
  have h5 : (s[0] == (35 : UInt8)) = true := by
    rw [show (num s[0] == 35) = decide (s[0] = 35) from numq _ 35 (by omega)] at h4
    simpa using h4
  rw [e, roomB_cons, hm, h5, decide_eq_true (show 1 ≤ r.length by omega), decide_eq_true (show r.length ≤ 30 by omega)]; rfl
set_option maxHeartbeats 2000000 in
set_option maxRecDepth 100000 in
theorem gw_isRoom (s : ByteArray) (w : World) (hs : s.size ≤ maxLen) : Calls Tryz.prog 28 #[.string s] w fun e w' => e = .returned (.bool (roomB (toL s))) ∧ w = w' := by
  unfold maxLen at hs
  by_cases h0 : s.size < 2
  · have H := Lib.hid (room_short h0)
    have h1 : (s.size : Int) < 2 := by omega
    clear h0
    go_enter Tryz.func28, Tryz.ntmps28
    go_wp2_with fail
    go_ret
    exact ⟨ret_bool H.out.symm, rfl⟩
  · have h1 : (2 : Int) ≤ (s.size : Int) := by omega
    have h2 : 0 < s.size := by omega
    by_cases h3 : 31 < s.size
    · have H := Lib.hid (room_long h3)
      have h5 : (31 : Int) < (s.size : Int) := by omega
      clear h0 h3
      go_enter Tryz.func28, Tryz.ntmps28
      go_wp2_with fail
      go_ret
      exact ⟨ret_bool H.out.symm, rfl⟩
    · have h5 : (s.size : Int) ≤ 31 := by omega
      rcases h4 : (num s[0] == 35) with _ | _
      · have H := Lib.hid (room_first h2 h4)
        have h6 : (num s[0] != 35) = true := by simp [bne, h4]
        clear h0 h3
        go_enter Tryz.func28, Tryz.ntmps28
        go_wp2_with fail
        go_ret
        exact ⟨ret_bool H.out.symm, rfl⟩
      · have h6 : (num s[0] != 35) = false := by simp [bne, h4]
        have HG := Lib.hid (fun k => room_good (s := s) (k := k) (by omega) (by omega) h4)
        have HB := Lib.hid (fun k (hk1 : 1 ≤ k) (hk : k < s.size) => room_bad (s := s) hk1 hk)
        clear h0 h3
        go_enter Tryz.func28, Tryz.ntmps28
        go_wp2_with fail
        go_loop [3] (fun v => ∃ k : Nat, 1 ≤ k ∧ k ≤ s.size ∧ v = .int .i64 (k : Int) ∧ PreR s k) (fun v => s.size - (intOf v).toNat)
        case atStart => exact ⟨1, by omega, by omega, rfl, PreR.one s⟩
        case round =>
          obtain ⟨k, hkk, hk, rfl, hp⟩ := hrel
          have HP := Lib.hid hp; clear hp
          have k0 : (0 : Int) ≤ (k : Int) := by omega
          by_cases hlt : k < s.size
          · have k1 : (k : Int) < (s.size : Int) := by omega
            rcases hl : isLower (num (s[k]'hlt)) with _ | _
            all_goals rcases hd : isDigit (num (s[k]'hlt)) with _ | _
            all_goals rcases h45 : (num (s[k]'hlt) == 45) with _ | _
            all_goals
              have h45' := congrArg (!·) h45
              simp only [← bne.eq_1] at h45'
              have HC := Lib.hid (show notR (num (s[k]'hlt)) = _ from by unfold notR; rw [hl, hd, h45'])
              simp only [Bool.not_true, Bool.not_false] at h45'
              have HL1 := Lib.hid hl; have HD1 := Lib.hid hd
              have HBk := Lib.hid (HB.out k hkk hlt)
              have HNk := Lib.hid (fun h => HP.out.step hlt h)
              clear hl hd
              go_wp2_with (first | (go_at_call 55; (with_reducible refine (asc_isLower _ _).mono ?_); rintro e w' ⟨rfl, rfl⟩; rw [HL1.out]) | (go_at_call 56; (with_reducible refine (asc_isDigit _ _).mono ?_); rintro e w' ⟨rfl, rfl⟩; rw [HD1.out]))
              first
                | (go_ret; exact ⟨ret_bool (HBk.out (by rw [HC.out]; rfl)).symm, rfl⟩)
                | (go_round
                   case rel => exact ⟨k + 1, by omega, by omega, by go_num, HNk.out (by rw [HC.out]; rfl)⟩
                   case measure => simp [intOf] <;> omega)
          · have k1 : (s.size : Int) ≤ (k : Int) := by omega
            have HR := Lib.hid (HG.out k (by omega) HP.out)
            go_wp2_with fail
            go_ret
            exact ⟨ret_bool HR.out.symm, rfl⟩
end Go.Proofs.YtghjgbkhhoaebaaGreatDoor
